/- rpc.record: walked. rpc.record: its walk. rpc's answers: walked. rpc's params: a part of a sort, a text, a number; walked. slices.Clone at texts; a place of params: walked. A place of params: walked. A change of params: walked. What params tell: the states between. What params tell: walked, all kinds but the changes. What params tell: what is cancelled; walked. What params tell: the changes; walked. -/
import Derived.Test.YthnbeebilomchaaGreatDoorMg3
import Derived.Test.YthnbeebilomchaaGreatDoorMg2
import Derived.Deep.RegionHeld3
namespace Go.Proofs.YthnbeebilomchaaGreatDoor
open Go Go.RowKit

/-- a key and a value -/
abbrev Pt := Nm × VD
def ptC (p : Pt) : List Value := strV p.1 :: p.2.cells
theorem ptC_len (p : Pt) : (ptC p).length = 7 := by unfold ptC; rw [List.length_cons, VD.len]
theorem val_list (d : VD) : d.cells = [.int .i64 d.sort, .bool d.on, .int .i64 d.n, .string ⟨d.text.toArray⟩, .slice d.a d.list.length d.c, .slice d.ka d.keys.length d.kc] := by cases d; rfl
theorem val_arr (d : VD) : d.cells.toArray = #[.int .i64 d.sort, .bool d.on, .int .i64 d.n, .string ⟨d.text.toArray⟩, .slice d.a d.list.length d.c, .slice d.ka d.keys.length d.kc] := by cases d; rfl
/-- parts in a row -/
structure PtsAt (w : World) (P : Nat → Prop) (a : Option Addr) (l : List Pt) : Prop where
  row : Row w 7 a l.length (l.flatMap ptC)
  vals : ∀ p ∈ l, ValAt w P p.2
/-- a value that is handed back, whose rows are P -/
def DocP (w : World) (P : Nat → Prop) (v : V) (e : Ending) (w' : World) : Prop := ∃ d : VD, e = .returned (.agg #[.int .i64 d.sort, .bool d.on, .int .i64 d.n, .string ⟨d.text.toArray⟩, .slice d.a d.list.length d.c, .slice d.ka d.keys.length d.kc]) ∧ d.v = v ∧ ValAt w' P d ∧ Below w.heap.size w w'
theorem DocP.doc {w w' : World} {P : Nat → Prop} {v : V} {e : Ending} (h : DocP w P v e w') : DocE w v e w' := by
  obtain ⟨d, h1, h2, h3, h4⟩ := h
  exact ⟨d, h1, h2, h3.mono fun _ _ _ => trivial, h4⟩
theorem PtsAt.ext {w w' : World} {P : Nat → Prop} {a : Option Addr} {l : List Pt} (h : PtsAt w P a l) (hb : Below w.heap.size w w') : PtsAt w' P a l := ⟨h.row.ext hb, fun p hp => (h.vals p hp).ext hb⟩
def recP (l : List Pt) : V := recW (l.map fun p => (p.1, p.2.v))
theorem pt_at {w : World} {P : Nat → Prop} {a : Option Addr} {l : List Pt} (h : PtsAt w P a l) {i : Nat} {x : Pt} (hx : l[i]? = some x) :
    ∃ b off, a = some ⟨b, off, none⟩ ∧ w.cell? ⟨b, off + i * 7, none⟩ = some (.string ⟨x.1.toArray⟩) ∧ w.cell? ⟨b, off + i * 7 + 1, none⟩ = some (.int .i64 x.2.sort) ∧ w.cell? ⟨b, off + i * 7 + 2, none⟩ = some (.bool x.2.on) ∧ w.cell? ⟨b, off + i * 7 + 3, none⟩ = some (.int .i64 x.2.n) ∧
      w.cell? ⟨b, off + i * 7 + 4, none⟩ = some (.string ⟨x.2.text.toArray⟩) ∧ w.cell? ⟨b, off + i * 7 + 5, none⟩ = some (.slice x.2.a x.2.list.length x.2.c) ∧ w.cell? ⟨b, off + i * 7 + 6, none⟩ = some (.slice x.2.ka x.2.keys.length x.2.kc) := by
  obtain ⟨b, off, ha, hc⟩ := Row.elem ptC_len (by decide) h.row hx
  obtain ⟨k, s, o, n, t, va, vc, l2, ka, kc, ks⟩ := x
  exact ⟨b, off, ha, hc 0 (by decide), hc 1 (by decide), hc 2 (by decide), hc 3 (by decide), hc 4 (by decide), hc 5 (by decide), hc 6 (by decide)⟩

def zeroC : Array Value := #[.int .i64 0, .bool false, .int .i64 0, .string { data := #[] }, .slice none 0 0, .slice none 0 0]
def recC (l k : Value) : Array Value := #[.int .i64 5, .bool false, .int .i64 0, .string { data := #[] }, l, k]
/-- between rounds -/
structure RecL (w : World) (gv gr : Nat) (l : List Pt) (la : Option Addr) (lc : Nat) (ka : Option Addr) (kc : Nat) (W : World) : Prop where
  below : Below w.heap.size w W
  blk : Blk W gv (recC (.slice la l.length lc) (.slice ka l.length kc)) 36
  res : Blk W gr zeroC 36
  lown : Own W w.heap.size 36 6 la l.length lc (l.flatMap fun p => p.2.cells)
  kown : Own W w.heap.size 9 1 ka l.length kc (l.map fun p => strV p.1)
  l1 : rowOf la lc ≠ some gv
  l2 : rowOf la lc ≠ some gr
  k1 : rowOf ka kc ≠ some gv
  k2 : rowOf ka kc ≠ some gr
/-- within the region -/
structure RecI (w : World) (gv gr gp : Nat) (l : List Pt) (x : Pt) (la : Option Addr) (lc : Nat) (ka : Option Addr) (kc : Nat) (D : Nat → Bool) (s : Nat → Value) (W : World) : Prop where
  below : Below w.heap.size w W
  n1 : gv ≠ gp
  n2 : gr ≠ gv
  g1 : w.heap.size ≤ gv
  blk : Blk W gv (recC (bif D 15 then s 24 else .slice la l.length lc) (bif D 13 then s 18 else .slice ka l.length kc)) 36
  res : Blk W gr zeroC 36
  prt : Blk W gp (ptC x).toArray 74
  s14 : D 1 = true → s 14 = .slice ka l.length kc
  s20 : D 7 = true → s 20 = .slice la l.length lc
  s17 : D 4 = true → D 5 = false → ∃ g, s 17 = .slice (some ⟨g, 0, none⟩) 1 1 ∧ Blk W g #[strV x.1] 9
  s23 : D 10 = true → D 11 = false → ∃ g, s 23 = .slice (some ⟨g, 0, none⟩) 1 1 ∧ Blk W g x.2.cells.toArray 36
  s25 : D 12 = true → s 25 = .pointer (some ⟨gv, 5, none⟩)
  s26 : D 14 = true → s 26 = .pointer (some ⟨gv, 4, none⟩)
  k0 : D 5 = false → Own W w.heap.size 9 1 ka l.length kc (l.map fun p => strV p.1) ∧ rowOf ka kc ≠ some gv ∧ rowOf ka kc ≠ some gr
  k1 : D 5 = true → ∃ a c, s 18 = .slice a (l.length + 1) c ∧ Own W w.heap.size 9 1 a (l.length + 1) c ((l.map fun p => strV p.1) ++ [strV x.1]) ∧ rowOf a c ≠ some gv ∧ rowOf a c ≠ some gr
  v0 : D 11 = false → Own W w.heap.size 36 6 la l.length lc (l.flatMap fun p => p.2.cells) ∧ rowOf la lc ≠ some gv ∧ rowOf la lc ≠ some gr
  v1 : D 11 = true → ∃ a c, s 24 = .slice a (l.length + 1) c ∧ Own W w.heap.size 36 6 a (l.length + 1) c ((l.flatMap fun p => p.2.cells) ++ x.2.cells) ∧ rowOf a c ≠ some gv ∧ rowOf a c ≠ some gr
theorem blk_types {w : World} {g : Nat} {c c' : Array Value} {T T' : TypeId} (h : Blk w g c T) (h' : Blk w g c' T') : T = T' := by
  have := h.symm.trans h'
  simp at this
  exact this.2
/-- a block of another type is no row of it -/
theorem Own.notBlk {W : World} {base sz n c : Nat} {T : TypeId} {a : Option Addr} {xs : List Value} (h : Own W base T sz a n c xs) {g : Nat} {cs : Array Value} {T' : TypeId} (hB : Blk W g cs T') (hne : T' ≠ T) : some g ≠ rowOf a c := by
  intro he
  unfold rowOf at he
  split at he
  · cases he
  · rename_i hc
    rcases h.2 with ⟨_, q, _⟩ | ⟨g', off', cur', rfl, _, q3, _⟩
    · exact hc q
    · simp [blockOf] at he; subst he
      exact hne (blk_types hB q3)
section
variable {w : World} {gv gr gp : Nat} {l : List Pt} {x : Pt} {la : Option Addr} {lc : Nat} {ka : Option Addr} {kc : Nat} {D : Nat → Bool} {s : Nat → Value} {W : World}
theorem RecI.start {W : World} (h : RecL w gv gr l la lc ka kc W) (n1 : gv ≠ gp) (n2 : gr ≠ gv) (g1 : w.heap.size ≤ gv) (hp : Blk W gp (ptC x).toArray 74) (d1 : D 1 = false) (d4 : D 4 = false) (d5 : D 5 = false) (d7 : D 7 = false) (d10 : D 10 = false) (d11 : D 11 = false) (d12 : D 12 = false) (d13 : D 13 = false) (d14 : D 14 = false) (d15 : D 15 = false) (s : Nat → Value) :
    RecI w gv gr gp l x la lc ka kc D s W where
  below := h.below
  n1 := n1
  n2 := n2
  g1 := g1
  blk := by rw [d15, d13]; exact h.blk
  res := h.res
  prt := hp
  s14 := fun e => by rw [d1] at e; cases e
  s20 := fun e => by rw [d7] at e; cases e
  s17 := fun e => by rw [d4] at e; cases e
  s23 := fun e => by rw [d10] at e; cases e
  s25 := fun e => by rw [d12] at e; cases e
  s26 := fun e => by rw [d14] at e; cases e
  k0 := fun _ => ⟨h.kown, h.k1, h.k2⟩
  k1 := fun e => by rw [d5] at e; cases e
  v0 := fun _ => ⟨h.lown, h.l1, h.l2⟩
  v1 := fun e => by rw [d11] at e; cases e
theorem RecI.op1 (h : RecI w gv gr gp l x la lc ka kc D s W) : RecI w gv gr gp l x la lc ka kc (updD D 1) (updS s (some 14) (.slice ka l.length kc)) W :=
  ⟨h.below, h.n1, h.n2, h.g1, h.blk, h.res, h.prt, fun _ => rfl, h.s20, h.s17, h.s23, h.s25, h.s26, h.k0, h.k1, h.v0, h.v1⟩
theorem RecI.op7 (h : RecI w gv gr gp l x la lc ka kc D s W) : RecI w gv gr gp l x la lc ka kc (updD D 7) (updS s (some 20) (.slice la l.length lc)) W :=
  ⟨h.below, h.n1, h.n2, h.g1, h.blk, h.res, h.prt, h.s14, fun _ => rfl, h.s17, h.s23, h.s25, h.s26, h.k0, h.k1, h.v0, h.v1⟩
theorem RecI.op12 (h : RecI w gv gr gp l x la lc ka kc D s W) : RecI w gv gr gp l x la lc ka kc (updD D 12) (updS s (some 25) (.pointer (some ⟨gv, 5, none⟩))) W :=
  ⟨h.below, h.n1, h.n2, h.g1, h.blk, h.res, h.prt, h.s14, h.s20, h.s17, h.s23, fun _ => rfl, h.s26, h.k0, h.k1, h.v0, h.v1⟩
theorem RecI.op14 (h : RecI w gv gr gp l x la lc ka kc D s W) : RecI w gv gr gp l x la lc ka kc (updD D 14) (updS s (some 26) (.pointer (some ⟨gv, 4, none⟩))) W :=
  ⟨h.below, h.n1, h.n2, h.g1, h.blk, h.res, h.prt, h.s14, h.s20, h.s17, h.s23, h.s25, fun _ => rfl, h.k0, h.k1, h.v0, h.v1⟩
theorem RecI.alloc (h : RecI w gv gr gp l x la lc ka kc D s W) (o : Obj) : RecI w gv gr gp l x la lc ka kc D s (W.alloc o) where
  below := h.below.alloc h.below.size _
  n1 := h.n1
  n2 := h.n2
  g1 := h.g1
  blk := h.blk.alloc _
  res := h.res.alloc _
  prt := h.prt.alloc _
  s14 := h.s14
  s20 := h.s20
  s17 := fun e e' => by obtain ⟨g, h1, h2⟩ := h.s17 e e'; exact ⟨g, h1, h2.alloc _⟩
  s23 := fun e e' => by obtain ⟨g, h1, h2⟩ := h.s23 e e'; exact ⟨g, h1, h2.alloc _⟩
  s25 := h.s25
  s26 := h.s26
  k0 := fun e => ⟨(h.k0 e).1.alloc _, (h.k0 e).2⟩
  k1 := fun e => by obtain ⟨a, c, h1, h2, h3⟩ := h.k1 e; exact ⟨a, c, h1, h2.alloc _, h3⟩
  v0 := fun e => ⟨(h.v0 e).1.alloc _, (h.v0 e).2⟩
  v1 := fun e => by obtain ⟨a, c, h1, h2, h3⟩ := h.v1 e; exact ⟨a, c, h1, h2.alloc _, h3⟩
theorem RecI.op4 (h : RecI w gv gr gp l x la lc ka kc D s W) : RecI w gv gr gp l x la lc ka kc (updD D 4) (updS s (some 17) (.slice (some ⟨W.heap.size, 0, none⟩) 1 1)) (W.alloc (.cells #[strV x.1] 9)) := by
  have k := h.alloc (.cells #[strV x.1] 9)
  exact ⟨k.below, k.n1, k.n2, k.g1, k.blk, k.res, k.prt, k.s14, k.s20, fun _ _ => ⟨_, rfl, Blk.new rfl⟩, k.s23, k.s25, k.s26, k.k0, k.k1, k.v0, k.v1⟩
theorem RecI.op10 (h : RecI w gv gr gp l x la lc ka kc D s W) : RecI w gv gr gp l x la lc ka kc (updD D 10) (updS s (some 23) (.slice (some ⟨W.heap.size, 0, none⟩) 1 1)) (W.alloc (.cells x.2.cells.toArray 36)) := by
  have k := h.alloc (.cells x.2.cells.toArray 36)
  exact ⟨k.below, k.n1, k.n2, k.g1, k.blk, k.res, k.prt, k.s14, k.s20, k.s17, fun _ _ => ⟨_, rfl, Blk.new rfl⟩, k.s25, k.s26, k.k0, k.k1, k.v0, k.v1⟩
theorem RecI.op10' (h : RecI w gv gr gp l x la lc ka kc D s W) : RecI w gv gr gp l x la lc ka kc (updD D 10) (updS s (some 23) (.slice (some ⟨W.heap.size, 0, none⟩) 1 1)) (W.alloc (.cells #[.int .i64 x.2.sort, .bool x.2.on, .int .i64 x.2.n, .string ⟨x.2.text.toArray⟩, .slice x.2.a x.2.list.length x.2.c, .slice x.2.ka x.2.keys.length x.2.kc] 36)) := by
  have k := h.op10
  rw [val_arr] at k
  exact k
/-- the keys have grown -/
theorem RecI.op5 (h : RecI w gv gr gp l x la lc ka kc D s W) (d5 : D 5 = false) (d13 : D 13 = false) {a : Option Addr} {c : Nat} {W' : World} (ho : Own W' w.heap.size 9 1 a (l.length + 1) c ((l.map fun p => strV p.1) ++ [strV x.1])) (hg : W.grownBy W' (rowOf ka kc))
    (hb : rowOf a c = rowOf ka kc ∨ rowOf a c = some W.heap.size) : RecI w gv gr gp l x la lc ka kc (updD D 5) (updS s (some 18) (.slice a (l.length + 1) c)) W' := by
  obtain ⟨q0, q1, q2⟩ := h.k0 d5
  have ne : 36 ≠ 9 := by decide
  refine ⟨h.below.grown hg h.below.size (q0.rowBase (Nat.le_refl _)), h.n1, h.n2, h.g1, ?_, h.res.grown hg (fun e => q2 e.symm), h.prt.grown hg (q0.notBlk h.prt (by decide)), h.s14, h.s20, fun _ e => (by rw [updD_self] at e; cases e), fun e e' => ?_, h.s25, h.s26, fun e => (by rw [updD_self] at e; cases e), fun _ => ⟨a, c, rfl, ho, rowOf_apart q1 h.blk.lt hb, rowOf_apart q2 h.res.lt hb⟩, fun e => ?_, fun e => ?_⟩
  · have := h.blk.grown hg (fun e => q1 e.symm)
    rw [d13] at this
    rw [show updD D 5 13 = false from d13]
    exact this
  · obtain ⟨g, h1, h2⟩ := h.s23 e e'
    exact ⟨g, h1, h2.grown hg (q0.notBlk h2 ne)⟩
  · exact ⟨(h.v0 e).1.keptType q0 ne hg, (h.v0 e).2⟩
  · obtain ⟨a', c', h1, h2, h3⟩ := h.v1 e
    exact ⟨a', c', h1, h2.keptType q0 ne hg, h3⟩
/-- the values have grown -/
theorem RecI.op11 (h : RecI w gv gr gp l x la lc ka kc D s W) (d11 : D 11 = false) (d15 : D 15 = false) {a : Option Addr} {c : Nat} {W' : World} (ho : Own W' w.heap.size 36 6 a (l.length + 1) c ((l.flatMap fun p => p.2.cells) ++ x.2.cells)) (hg : W.grownBy W' (rowOf la lc))
    (hb : rowOf a c = rowOf la lc ∨ rowOf a c = some W.heap.size) : RecI w gv gr gp l x la lc ka kc (updD D 11) (updS s (some 24) (.slice a (l.length + 1) c)) W' := by
  obtain ⟨q0, q1, q2⟩ := h.v0 d11
  have ne : 9 ≠ 36 := by decide
  refine ⟨h.below.grown hg h.below.size (q0.rowBase (Nat.le_refl _)), h.n1, h.n2, h.g1, ?_, h.res.grown hg (fun e => q2 e.symm), h.prt.grown hg (q0.notBlk h.prt (by decide)), h.s14, h.s20, fun e e' => ?_, fun _ e => (by rw [updD_self] at e; cases e), h.s25, h.s26, fun e => ?_, fun e => ?_, fun e => (by rw [updD_self] at e; cases e), fun _ => ⟨a, c, rfl, ho, rowOf_apart q1 h.blk.lt hb, rowOf_apart q2 h.res.lt hb⟩⟩
  · have := h.blk.grown hg (fun e => q1 e.symm)
    rw [d15] at this
    rw [show updD D 11 15 = false from d15]
    exact this
  · obtain ⟨g, h1, h2⟩ := h.s17 e e'
    exact ⟨g, h1, h2.grown hg (q0.notBlk h2 ne)⟩
  · exact ⟨(h.k0 e).1.keptType q0 ne hg, (h.k0 e).2⟩
  · obtain ⟨a', c', h1, h2, h3⟩ := h.k1 e
    exact ⟨a', c', h1, h2.keptType q0 ne hg, h3⟩
/-- a store into the box -/
theorem RecI.put (h : RecI w gv gr gp l x la lc ka kc D s W) (d5 : D 5 = true) (d11 : D 11 = true) {D' : Nat → Bool} (e5 : D' 5 = true) (e11 : D' 11 = true) (e1 : D' 1 = D 1) (e7 : D' 7 = D 7) (e12 : D' 12 = D 12) (e14 : D' 14 = D 14) (o : Nat) (u : Value)
    (hb : Blk (W.setCell ⟨gv, o, none⟩ u) gv (recC (bif D' 15 then s 24 else .slice la l.length lc) (bif D' 13 then s 18 else .slice ka l.length kc)) 36) : RecI w gv gr gp l x la lc ka kc D' s (W.setCell ⟨gv, o, none⟩ u) where
  below := h.below.setCell h.g1 _
  n1 := h.n1
  n2 := h.n2
  g1 := h.g1
  blk := hb
  res := h.res.other h.n2 _
  prt := h.prt.other (Ne.symm h.n1) _
  s14 := fun e => h.s14 (e1 ▸ e)
  s20 := fun e => h.s20 (e7 ▸ e)
  s17 := fun _ e => by rw [e5] at e; cases e
  s23 := fun _ e => by rw [e11] at e; cases e
  s25 := fun e => h.s25 (e12 ▸ e)
  s26 := fun e => h.s26 (e14 ▸ e)
  k0 := fun e => by rw [e5] at e; cases e
  k1 := fun _ => by obtain ⟨a, c, h1, h2, h3⟩ := h.k1 d5; exact ⟨a, c, h1, h2.setCell_row (p := ⟨gv, o, none⟩) h3.1 u, h3⟩
  v0 := fun e => by rw [e11] at e; cases e
  v1 := fun _ => by obtain ⟨a, c, h1, h2, h3⟩ := h.v1 d11; exact ⟨a, c, h1, h2.setCell_row (p := ⟨gv, o, none⟩) h3.1 u, h3⟩
theorem RecI.op13 (h : RecI w gv gr gp l x la lc ka kc D s W) (d5 : D 5 = true) (d11 : D 11 = true) (d15 : D 15 = false) (v : Value) : RecI w gv gr gp l x la lc ka kc (updD D 13) (updS s none v) (W.setCell ⟨gv, 5, none⟩ (s 18)) := by
  refine h.put d5 d11 (D' := updD D 13) d5 d11 rfl rfl rfl rfl 5 _ ?_
  have := h.blk.set 5 (s 18)
  rw [d15] at this
  rw [show updD D 13 15 = false from d15]
  exact this
theorem RecI.op15 (h : RecI w gv gr gp l x la lc ka kc D s W) (d5 : D 5 = true) (d11 : D 11 = true) (d13 : D 13 = true) (v : Value) : RecI w gv gr gp l x la lc ka kc (updD D 15) (updS s none v) (W.setCell ⟨gv, 4, none⟩ (s 24)) := by
  refine h.put d5 d11 (D' := updD D 15) d5 d11 rfl rfl rfl rfl 4 _ ?_
  have := h.blk.set 4 (s 24)
  rw [d13] at this
  rw [show updD D 15 13 = true from d13]
  exact this
theorem RecI.ends (h : RecI w gv gr gp l x la lc ka kc D s W) (d5 : D 5 = true) (d11 : D 11 = true) (d13 : D 13 = true) (d15 : D 15 = true) : ∃ la lc ka kc, RecL w gv gr (l ++ [x]) la lc ka kc W := by
  obtain ⟨a, c, h1, h2, h3, h4⟩ := h.k1 d5
  obtain ⟨a', c', h1', h2', h3', h4'⟩ := h.v1 d11
  refine ⟨a', c', a, c, h.below, ?_, h.res, ?_, ?_, h3', h4', h3, h4⟩
  · have := h.blk
    rw [d15, d13, h1, h1'] at this
    rw [List.length_append]
    exact this
  · rw [List.length_append, List.flatMap_append, List.flatMap_singleton]; exact h2'
  · rw [List.length_append, List.map_append]; exact h2
end
end Go.Proofs.YthnbeebilomchaaGreatDoor

namespace Go.Proofs.YthnbeebilomchaaGreatDoor
open Go Go.RowKit

theorem pt_arr (x : Pt) : (ptC x).toArray = #[.string ⟨x.1.toArray⟩, .int .i64 x.2.sort, .bool x.2.on, .int .i64 x.2.n, .string ⟨x.2.text.toArray⟩, .slice x.2.a x.2.list.length x.2.c, .slice x.2.ka x.2.keys.length x.2.kc] := by obtain ⟨k, s, o, n, t, va, vc, l2, ka, kc, ks⟩ := x; rfl
theorem take_snoc1 {α : Type} {l : List α} {k : Nat} {x : α} (hx : l[k]? = some x) : l.take (k + 1) = l.take k ++ [x] := by first | (rw [List.take_add_one, hx]; done) | (rw [List.take_add_one, hx]; rfl)
theorem rec_end {W : World} {tm : Array Value} {R : Ending → World → Prop} {g : Nat} {u0 u1 u2 u3 u4 u5 : Value} (h2 : tm.getD 2 undef = .pointer (some ⟨g, 0, none⟩)) (hB : Blk W g #[u0, u1, u2, u3, u4, u5] 36)
    (hR : R (.returned (.agg #[u0, u1, u2, u3, u4, u5])) W) : bodyPost Tryz.prog Tryz.f32 R .ret { tmps := tm, defers := [] } W := by
  have d0 := hB.cell 0
  have d1 := hB.cell 1
  have d2 := hB.cell 2
  have d3 := hB.cell 3
  have d4 := hB.cell 4
  have d5 := hB.cell 5
  simp only [List.getElem?_toArray, List.getElem?_cons_zero, List.getElem?_cons_succ] at d0 d1 d2 d3 d4 d5
  rw [Array.getD_eq_getD_getElem?] at h2
  refine bodyPost_ret (v := .agg #[u0, u1, u2, u3, u4, u5]) ?_ rfl hR
  simp [results, Tryz.results32, go_sem, h2, d0, d1, d2, d3, d4, d5]
theorem RecL.doc {w wr : World} {gv gr o n : Nat} {l : List Pt} {la : Option Addr} {lc : Nat} {ka : Option Addr} {kc : Nat} {P : Nat → Prop} (h : RecL w gv gr l la lc ka kc wr) (hP : ∀ g, w.heap.size ≤ g → P g) (hv : ∀ p ∈ l, ValAt w P p.2) (hr : w.heap.size ≤ gr) (hn : n = l.length) :
    DocP w P (recP l) (.returned (.agg #[.int .i64 5, .bool false, .int .i64 0, .string { data := #[] }, .slice la n lc, .slice ka n kc])) (put6 wr gr o (.int .i64 5) (.bool false) (.int .i64 0) (.string { data := #[] }) (.slice la n lc) (.slice ka n kc)) := by
  subst hn
  have hb : Below w.heap.size w (put6 wr gr o (.int .i64 5) (.bool false) (.int .i64 0) (.string { data := #[] }) (.slice la l.length lc) (.slice ka l.length kc)) := put6_below h.below hr
  have hk : ∀ (b : Option Addr) (c : Nat), rowOf b c ≠ some gr → 0 < l.length → l.length ≤ c → blockOf b ≠ some gr := fun b c h1 h2 h3 h4 => h1 (by unfold rowOf; rw [if_neg (by omega)]; exact h4)
  refine ⟨VD.mk 5 false 0 [] la lc (l.map (·.2)) ka kc (l.map (·.1)), by show _ = Ending.returned (.agg #[_, _, _, _, .slice la (l.map (·.2)).length lc, .slice ka (l.map (·.1)).length kc]); rw [List.length_map, List.length_map]; rfl, ?_, .mk ?_ ?_ (fun g _ hg => hP g (h.lown.base hg)) (fun g _ hg => hP g (h.kown.base hg)) (fun y hy => ?_), hb⟩
  · rw [VD.v_eq]; simp [recP, recW, VD.list, VD.keys, VD.sort, VD.on, VD.n, VD.text]
  · rw [List.length_map, List.flatMap_map]
    exact h.lown.row.congr fun g h0 hg _ => put6_other (fun e => hk la lc h.l2 (Nat.pos_of_mul_pos_right h0) h.lown.le (by rw [hg, e]))
  · rw [List.length_map, List.map_map]
    exact h.kown.row.congr fun g h0 hg _ => put6_other (fun e => hk ka kc h.k2 (by omega) h.kown.le (by rw [hg, e]))
  · obtain ⟨p, hp, rfl⟩ := List.mem_map.1 hy
    exact (hv p hp).ext hb
theorem keep7 {gp : Nat} {x : Pt} {W : World} (h : Blk W gp (ptC x).toArray 74) : (fun w' => w'.cell? ⟨gp, 0, none⟩ = some (.string ⟨x.1.toArray⟩) ∧ w'.cell? ⟨gp, 1, none⟩ = some (.int .i64 x.2.sort) ∧ w'.cell? ⟨gp, 2, none⟩ = some (.bool x.2.on) ∧ w'.cell? ⟨gp, 3, none⟩ = some (.int .i64 x.2.n) ∧ w'.cell? ⟨gp, 4, none⟩ = some (.string ⟨x.2.text.toArray⟩) ∧ w'.cell? ⟨gp, 5, none⟩ = some (.slice x.2.a x.2.list.length x.2.c) ∧ w'.cell? ⟨gp, 6, none⟩ = some (.slice x.2.ka x.2.keys.length x.2.kc)) W := by
  rw [pt_arr] at h
  exact ⟨h.cell 0, h.cell 1, h.cell 2, h.cell 3, h.cell 4, h.cell 5, h.cell 6⟩
set_option maxHeartbeats 4000000 in
set_option maxRecDepth 20000 in
theorem record_any (P : Nat → Prop) (a : Option Addr) (c : Nat) (parts : List Pt) (w : World) (hP : ∀ g, w.heap.size ≤ g → P g) (hp : PtsAt w P a parts) (hn : parts.length ≤ 1000) : Calls Tryz.prog 32 #[.slice a parts.length c] w (DocP w P (recP parts)) := by
  have HP := Lib.hid hp
  have HPP := Lib.hid hP
  clear hp hP
  go_enter Tryz.func32, Tryz.ntmps32
  go_wp2
  go_loopw [9] (fun i wr => ∃ k : Nat, k ≤ parts.length ∧ i = .int .i64 k ∧ Hid (∃ la lc ka kc, RecL w (w.heap.size + 1) w.heap.size (parts.take k) la lc ka kc wr)) (fun i _ => parts.length - (intOf i).toNat)
  case atStart => exact ⟨0, Nat.zero_le _, rfl, Lib.hid ⟨none, 0, none, 0, (below_a1 w _).alloc (by simp) _, Blk.new (by simp), (Blk.new rfl).alloc _, Own.nil _ _ _ _, Own.nil _ _ _ _, by simp [rowOf], by simp [rowOf], by simp [rowOf], by simp [rowOf]⟩⟩
  case round =>
    obtain ⟨k, hk, rfl, hL⟩ := hrel
    obtain ⟨la, lc, ka, kc, hL⟩ := hL.out
    obtain ⟨l, hl⟩ : ∃ l, l = parts.take k := ⟨_, rfl⟩
    rw [← hl] at hL
    have hkl : l.length ≤ 1000 := by rw [hl, List.length_take]; omega
    have HT := Lib.hid hl
    have HL := Lib.hid hL
    clear hL hl
    have hgr := HL.out.blk.lt
    by_cases hlt : k < parts.length
    · obtain ⟨x, hx⟩ := get_some hlt
      have HX := Lib.hid hx
      obtain ⟨b, off, rfl, c0, c1, c2, c3, c4, c5, c6⟩ := pt_at (HP.out.ext HL.out.below) hx
      clear hx
      obtain ⟨gp, hgp⟩ : ∃ gp, gp = wr.heap.size := ⟨_, rfl⟩
      obtain ⟨W1, hW1⟩ : ∃ W1, W1 = wr.alloc (.cells #[.string ⟨x.1.toArray⟩, .int .i64 x.2.sort, .bool x.2.on, .int .i64 x.2.n, .string ⟨x.2.text.toArray⟩, .slice x.2.a x.2.list.length x.2.c, .slice x.2.ka x.2.keys.length x.2.kc] 74) := ⟨_, rfl⟩
      have HP1 : Hid (Blk W1.drew gp (ptC x).toArray 74) := Lib.hid (by rw [pt_arr, hW1, hgp]; exact Blk.new rfl)
      have HL1 : Hid (RecL w (w.heap.size + 1) w.heap.size l la lc ka kc W1.drew) := Lib.hid (by
        rw [hW1]
        have h := HL.out
        exact ⟨(h.below.alloc h.below.size _).drew, h.blk.alloc _, h.res.alloc _, h.lown.alloc _, h.kown.alloc _, h.l1, h.l2, h.k1, h.k2⟩)
      have HK : Hid (∀ w' : World, Blk w' gp (ptC x).toArray 74 → (fun w' => w'.cell? ⟨gp, 0, none⟩ = some (.string ⟨x.1.toArray⟩) ∧ w'.cell? ⟨gp, 1, none⟩ = some (.int .i64 x.2.sort) ∧ w'.cell? ⟨gp, 2, none⟩ = some (.bool x.2.on) ∧ w'.cell? ⟨gp, 3, none⟩ = some (.int .i64 x.2.n) ∧ w'.cell? ⟨gp, 4, none⟩ = some (.string ⟨x.2.text.toArray⟩) ∧ w'.cell? ⟨gp, 5, none⟩ = some (.slice x.2.a x.2.list.length x.2.c) ∧ w'.cell? ⟨gp, 6, none⟩ = some (.slice x.2.ka x.2.keys.length x.2.kc)) w') := Lib.hid fun w' h => keep7 h
      have hgr2 : w.heap.size + 1 < gp := by omega
      go_wp2
      rw [← hgp, ← hW1]
      clear hW1 hgp c0 c1 c2 c3 c4 c5 c6
      clear hgr
      refine wp_region_held_drew (S := (fun w' => w'.cell? ⟨gp, 0, none⟩ = some (.string ⟨x.1.toArray⟩) ∧ w'.cell? ⟨gp, 1, none⟩ = some (.int .i64 x.2.sort) ∧ w'.cell? ⟨gp, 2, none⟩ = some (.bool x.2.on) ∧ w'.cell? ⟨gp, 3, none⟩ = some (.int .i64 x.2.n) ∧ w'.cell? ⟨gp, 4, none⟩ = some (.string ⟨x.2.text.toArray⟩) ∧ w'.cell? ⟨gp, 5, none⟩ = some (.slice x.2.a x.2.list.length x.2.c) ∧ w'.cell? ⟨gp, 6, none⟩ = some (.slice x.2.ka x.2.keys.length x.2.kc))) (by kernel_rfl) ?_ (fun hHeld => ?_)
      · exact HK.out _ HP1.out
      refine wpAnyH_take (i := 0) (oi := ⟨some 13, _, _, _, _, _⟩) (v := ?_) rfl (by kernel_rfl) (by kernel_rfl) (by kernel_rfl) (fun _ _ _ h => h) (Or.inl ⟨by rfl, ?_⟩) (by assumption) ?_; rotate_left; focus (intro w hSw; (try dsimp only at hSw); first | (go_simp; done) | (go_simp; with_reducible rfl))
      try simp only [Act.put]
      try simp only [List.setIfInBounds_toArray]
      try simp only [List.set_cons_succ, List.set_cons_zero]
      refine wpAnyH_take (i := 2) (oi := ⟨some 15, _, _, _, _, _⟩) (v := ?_) rfl (by kernel_rfl) (by kernel_rfl) (by kernel_rfl) (fun _ _ _ h => h) (Or.inl ⟨by rfl, ?_⟩) (by assumption) ?_; rotate_left; focus (intro w hSw; (try dsimp only at hSw); first | (go_simp; done) | (go_simp; with_reducible rfl))
      try simp only [Act.put]
      try simp only [List.setIfInBounds_toArray]
      try simp only [List.set_cons_succ, List.set_cons_zero]
      refine wpAnyH_take (i := 3) (oi := ⟨some 16, _, _, _, _, _⟩) (v := ?_) rfl (by kernel_rfl) (by kernel_rfl) (by kernel_rfl) (fun _ _ _ h => h) (Or.inl ⟨by rfl, ?_⟩) (by assumption) ?_; rotate_left; focus (intro w hSw; (try dsimp only at hSw); first | (go_simp; done) | (go_simp; with_reducible rfl))
      try simp only [Act.put]
      try simp only [List.setIfInBounds_toArray]
      try simp only [List.set_cons_succ, List.set_cons_zero]
      refine wpAnyH_take (i := 6) (oi := ⟨some 19, _, _, _, _, _⟩) (v := ?_) rfl (by kernel_rfl) (by kernel_rfl) (by kernel_rfl) (fun _ _ _ h => h) (Or.inl ⟨by rfl, ?_⟩) (by assumption) ?_; rotate_left; focus (intro w hSw; (try dsimp only at hSw); first | (go_simp; done) | (go_simp; with_reducible rfl))
      try simp only [Act.put]
      try simp only [List.setIfInBounds_toArray]
      try simp only [List.set_cons_succ, List.set_cons_zero]
      refine wpAnyH_take (i := 8) (oi := ⟨some 21, _, _, _, _, _⟩) (v := ?_) rfl (by kernel_rfl) (by kernel_rfl) (by kernel_rfl) (fun _ _ _ h => h) (Or.inl ⟨by rfl, ?_⟩) (by assumption) ?_; rotate_left; focus (intro w hSw; (try dsimp only at hSw); first | (go_simp; done) | (go_simp; with_reducible rfl))
      try simp only [Act.put]
      try simp only [List.setIfInBounds_toArray]
      try simp only [List.set_cons_succ, List.set_cons_zero]
      refine wpAnyH_take (i := 9) (oi := ⟨some 22, _, _, _, _, _⟩) (v := ?_) rfl (by kernel_rfl) (by kernel_rfl) (by kernel_rfl) (fun _ _ _ h => h) (Or.inl ⟨by rfl, ?_⟩) (by assumption) ?_; rotate_left; focus (intro w hSw; (try dsimp only at hSw); first | (go_simp; done) | (go_simp; with_reducible rfl))
      try simp only [Act.put]
      try simp only [List.setIfInBounds_toArray]
      try simp only [List.set_cons_succ, List.set_cons_zero]
      refine wpAnyH_invF [14, 17, 18, 20, 23, 24, 25, 26] [0, 2, 3, 6, 8, 9] (RecI w (w.heap.size + 1) w.heap.size gp l x la lc ka kc) (by kernel_rfl) (by rfl) (by kernel_rfl) (by kernel_rfl) (Nat.le_of_ble_eq_true (by kernel_rfl)) ?_ ?_ ?_ ?_
      · intro D s W hJ
        exact HK.out _ hJ.prt
      · intro s
        exact RecI.start HL1.out (by omega) (by omega) (by omega) HP1.out rfl rfl rfl rfl rfl rfl rfl rfl rfl rfl s
      · refine InvAllF.skip (by kernel_rfl) ?_
        refine InvAllF.cons (o := ⟨some 14, _, _, _, _, _⟩) (by kernel_rfl) (fun D s W hD hdep hno hJ K hK => ?_) ?_
        · have n5 : D 5 = false := hno 5 (by kernel_rfl)
          have n11 : D 11 = false := hno 11 (by kernel_rfl)
          have n12 : D 12 = false := hno 12 (by kernel_rfl)
          have n13 : D 13 = false := hno 13 (by kernel_rfl)
          have n14 : D 14 = false := hno 14 (by kernel_rfl)
          have n15 : D 15 = false := hno 15 (by kernel_rfl)
          clear hdep hno
          simp only [setAll, List.foldl_cons, List.foldl_nil, Act.put, List.setIfInBounds_toArray, List.set_cons_succ, List.set_cons_zero]
          have HBk := Lib.hid hJ.blk
          have b0 := HBk.out.cell 0
          have b1 := HBk.out.cell 1
          have b2 := HBk.out.cell 2
          have b3 := HBk.out.cell 3
          have b4 := HBk.out.cell 4
          have b5 := HBk.out.cell 5
          have m4 := HBk.out.free 4
          have m5 := HBk.out.free 5
          unfold recC at b0 b1 b2 b3 b4 b5
          simp only [List.getElem?_toArray, List.getElem?_cons_zero, List.getElem?_cons_succ] at b0 b1 b2 b3 b4 b5
          clear HBk
          rw [n13] at b5
          have HJ := Lib.hid hJ
          clear hJ b0 b1 b2 b3 b4 m4 m5
          go_simp
          refine hK.out _ _ _ ?_ HJ.out.op1
          simp only [setAll, List.foldl_cons, List.foldl_nil, Act.put, List.setIfInBounds_toArray, List.set_cons_succ, List.set_cons_zero]
        refine InvAllF.skip (by kernel_rfl) ?_
        refine InvAllF.skip (by kernel_rfl) ?_
        refine InvAllF.cons (o := ⟨some 17, _, _, _, _, _⟩) (by kernel_rfl) (fun D s W hD hdep hno hJ K hK => ?_) ?_
        · have n5 : D 5 = false := hno 5 (by kernel_rfl)
          have n11 : D 11 = false := hno 11 (by kernel_rfl)
          have n12 : D 12 = false := hno 12 (by kernel_rfl)
          have n13 : D 13 = false := hno 13 (by kernel_rfl)
          have n14 : D 14 = false := hno 14 (by kernel_rfl)
          have n15 : D 15 = false := hno 15 (by kernel_rfl)
          clear hdep hno
          simp only [setAll, List.foldl_cons, List.foldl_nil, Act.put, List.setIfInBounds_toArray, List.set_cons_succ, List.set_cons_zero]
          have HJ := Lib.hid hJ
          clear hJ
          go_simp
          refine hK.out _ _ _ ?_ HJ.out.op4
          simp only [setAll, List.foldl_cons, List.foldl_nil, Act.put, List.setIfInBounds_toArray, List.set_cons_succ, List.set_cons_zero]
        refine InvAllF.cons (o := ⟨some 18, _, _, _, _, _⟩) (by kernel_rfl) (fun D s W hD hdep hno hJ K hK => ?_) ?_
        · have e1 : D 1 = true := hdep 1 (by kernel_rfl)
          have e4 : D 4 = true := hdep 4 (by kernel_rfl)
          have n11 : D 11 = false := hno 11 (by kernel_rfl)
          have n12 : D 12 = false := hno 12 (by kernel_rfl)
          have n13 : D 13 = false := hno 13 (by kernel_rfl)
          have n14 : D 14 = false := hno 14 (by kernel_rfl)
          have n15 : D 15 = false := hno 15 (by kernel_rfl)
          clear hdep hno
          simp only [setAll, List.foldl_cons, List.foldl_nil, Act.put, List.setIfInBounds_toArray, List.set_cons_succ, List.set_cons_zero]
          have HS1 := Lib.hid (hJ.s14 e1)
          obtain ⟨g, hs2, hg⟩ := hJ.s17 e4 hD
          have HS2 := Lib.hid hs2
          have HG := Lib.hid hg
          have HO := Lib.hid (hJ.k0 hD).1
          have HJ := Lib.hid hJ
          clear hJ hs2 hg
          simp only [HS1.out, HS2.out]
          refine step_append_Own (act := ⟨_, []⟩) rfl (.tmp 14) (.tmp 17) 24 rfl w.heap.size 9 _ 1 16 Tryz.underlying24 Tryz.infoStr rfl (by decide) ka l.length kc _ (by simp [go_sem]) HO.out (some ⟨g, 0, none⟩) 1 1 [strV x.1] (by simp [go_sem]) (row_blk HG.out rfl) (by intro u hu; simp at hu; subst hu; rfl) (by unfold maxLen; omega) (by omega) HJ.out.below.size ?_
          intro a5 c5 w5 ho5 hg5 hb5
          simp only [Act.put, List.setIfInBounds_toArray, List.set_cons_succ, List.set_cons_zero]
          refine hK.out _ _ _ ?_ (HJ.out.op5 hD n13 ho5 hg5 hb5)
          simp only [HS1.out, HS2.out, setAll, List.foldl_cons, List.foldl_nil, Act.put, List.setIfInBounds_toArray, List.set_cons_succ, List.set_cons_zero]
        refine InvAllF.skip (by kernel_rfl) ?_
        refine InvAllF.cons (o := ⟨some 20, _, _, _, _, _⟩) (by kernel_rfl) (fun D s W hD hdep hno hJ K hK => ?_) ?_
        · have n11 : D 11 = false := hno 11 (by kernel_rfl)
          have n12 : D 12 = false := hno 12 (by kernel_rfl)
          have n13 : D 13 = false := hno 13 (by kernel_rfl)
          have n14 : D 14 = false := hno 14 (by kernel_rfl)
          have n15 : D 15 = false := hno 15 (by kernel_rfl)
          clear hdep hno
          simp only [setAll, List.foldl_cons, List.foldl_nil, Act.put, List.setIfInBounds_toArray, List.set_cons_succ, List.set_cons_zero]
          have HBk := Lib.hid hJ.blk
          have b0 := HBk.out.cell 0
          have b1 := HBk.out.cell 1
          have b2 := HBk.out.cell 2
          have b3 := HBk.out.cell 3
          have b4 := HBk.out.cell 4
          have b5 := HBk.out.cell 5
          have m4 := HBk.out.free 4
          have m5 := HBk.out.free 5
          unfold recC at b0 b1 b2 b3 b4 b5
          simp only [List.getElem?_toArray, List.getElem?_cons_zero, List.getElem?_cons_succ] at b0 b1 b2 b3 b4 b5
          clear HBk
          rw [n15] at b4
          have HJ := Lib.hid hJ
          clear hJ b0 b1 b2 b3 b5 m4 m5
          go_simp
          refine hK.out _ _ _ ?_ HJ.out.op7
          simp only [setAll, List.foldl_cons, List.foldl_nil, Act.put, List.setIfInBounds_toArray, List.set_cons_succ, List.set_cons_zero]
        refine InvAllF.skip (by kernel_rfl) ?_
        refine InvAllF.skip (by kernel_rfl) ?_
        refine InvAllF.cons (o := ⟨some 23, _, _, _, _, _⟩) (by kernel_rfl) (fun D s W hD hdep hno hJ K hK => ?_) ?_
        · have n11 : D 11 = false := hno 11 (by kernel_rfl)
          have n13 : D 13 = false := hno 13 (by kernel_rfl)
          have n14 : D 14 = false := hno 14 (by kernel_rfl)
          have n15 : D 15 = false := hno 15 (by kernel_rfl)
          clear hdep hno
          simp only [setAll, List.foldl_cons, List.foldl_nil, Act.put, List.setIfInBounds_toArray, List.set_cons_succ, List.set_cons_zero]
          have HJ := Lib.hid hJ
          clear hJ
          go_simp
          refine hK.out _ _ _ ?_ HJ.out.op10'
          simp only [setAll, List.foldl_cons, List.foldl_nil, Act.put, List.setIfInBounds_toArray, List.set_cons_succ, List.set_cons_zero]
        refine InvAllF.cons (o := ⟨some 24, _, _, _, _, _⟩) (by kernel_rfl) (fun D s W hD hdep hno hJ K hK => ?_) ?_
        · have e1 : D 1 = true := hdep 1 (by kernel_rfl)
          have e4 : D 4 = true := hdep 4 (by kernel_rfl)
          have e5 : D 5 = true := hdep 5 (by kernel_rfl)
          have e7 : D 7 = true := hdep 7 (by kernel_rfl)
          have e10 : D 10 = true := hdep 10 (by kernel_rfl)
          have n13 : D 13 = false := hno 13 (by kernel_rfl)
          have n14 : D 14 = false := hno 14 (by kernel_rfl)
          have n15 : D 15 = false := hno 15 (by kernel_rfl)
          clear hdep hno
          simp only [setAll, List.foldl_cons, List.foldl_nil, Act.put, List.setIfInBounds_toArray, List.set_cons_succ, List.set_cons_zero]
          have HS1 := Lib.hid (hJ.s20 e7)
          obtain ⟨g, hs2, hg⟩ := hJ.s23 e10 hD
          have HS2 := Lib.hid hs2
          have HG := Lib.hid hg
          have HO := Lib.hid (hJ.v0 hD).1
          have HJ := Lib.hid hJ
          clear hJ hs2 hg
          simp only [HS1.out, HS2.out]
          refine step_append_Own (act := ⟨_, []⟩) rfl (.tmp 20) (.tmp 23) 34 rfl w.heap.size 36 _ 6 88 Tryz.underlying34 Tryz.infoVal rfl (by decide) la l.length lc _ (by simp [go_sem]) HO.out (some ⟨g, 0, none⟩) 1 1 x.2.cells (by simp [go_sem]) (row_blk HG.out x.2.len) (by rw [val_list]; intro u hu; simp at hu; rcases hu with rfl | rfl | rfl | rfl | rfl | rfl <;> rfl) (by unfold maxLen; omega) (by omega) HJ.out.below.size ?_
          intro a5 c5 w5 ho5 hg5 hb5
          simp only [Act.put, List.setIfInBounds_toArray, List.set_cons_succ, List.set_cons_zero]
          refine hK.out _ _ _ ?_ (HJ.out.op11 hD n15 ho5 hg5 hb5)
          simp only [HS1.out, HS2.out, setAll, List.foldl_cons, List.foldl_nil, Act.put, List.setIfInBounds_toArray, List.set_cons_succ, List.set_cons_zero]
        refine InvAllF.cons (o := ⟨some 25, _, _, _, _, _⟩) (by kernel_rfl) (fun D s W hD hdep hno hJ K hK => ?_) ?_
        · have e1 : D 1 = true := hdep 1 (by kernel_rfl)
          have e4 : D 4 = true := hdep 4 (by kernel_rfl)
          have e5 : D 5 = true := hdep 5 (by kernel_rfl)
          have e7 : D 7 = true := hdep 7 (by kernel_rfl)
          have n13 : D 13 = false := hno 13 (by kernel_rfl)
          have n14 : D 14 = false := hno 14 (by kernel_rfl)
          have n15 : D 15 = false := hno 15 (by kernel_rfl)
          clear hdep hno
          simp only [setAll, List.foldl_cons, List.foldl_nil, Act.put, List.setIfInBounds_toArray, List.set_cons_succ, List.set_cons_zero]
          have HJ := Lib.hid hJ
          clear hJ
          go_simp
          refine hK.out _ _ _ ?_ HJ.out.op12
          simp only [setAll, List.foldl_cons, List.foldl_nil, Act.put, List.setIfInBounds_toArray, List.set_cons_succ, List.set_cons_zero]
        refine InvAllF.cons (o := ⟨none, _, _, _, _, _⟩) (by kernel_rfl) (fun D s W hD hdep hno hJ K hK => ?_) ?_
        · have e1 : D 1 = true := hdep 1 (by kernel_rfl)
          have e4 : D 4 = true := hdep 4 (by kernel_rfl)
          have e5 : D 5 = true := hdep 5 (by kernel_rfl)
          have e7 : D 7 = true := hdep 7 (by kernel_rfl)
          have e10 : D 10 = true := hdep 10 (by kernel_rfl)
          have e11 : D 11 = true := hdep 11 (by kernel_rfl)
          have e12 : D 12 = true := hdep 12 (by kernel_rfl)
          have n14 : D 14 = false := hno 14 (by kernel_rfl)
          have n15 : D 15 = false := hno 15 (by kernel_rfl)
          clear hdep hno
          simp only [setAll, List.foldl_cons, List.foldl_nil, Act.put, List.setIfInBounds_toArray, List.set_cons_succ, List.set_cons_zero]
          obtain ⟨a2, c2, q18, -⟩ := hJ.k1 e5
          have q25 := hJ.s25 e12
          have HBk := Lib.hid hJ.blk
          have b0 := HBk.out.cell 0
          have b1 := HBk.out.cell 1
          have b2 := HBk.out.cell 2
          have b3 := HBk.out.cell 3
          have b4 := HBk.out.cell 4
          have b5 := HBk.out.cell 5
          have m4 := HBk.out.free 4
          have m5 := HBk.out.free 5
          unfold recC at b0 b1 b2 b3 b4 b5
          simp only [List.getElem?_toArray, List.getElem?_cons_zero, List.getElem?_cons_succ] at b0 b1 b2 b3 b4 b5
          clear HBk
          have HQ := Lib.hid q18
          have HQ2 := Lib.hid q25
          have HJ := Lib.hid hJ
          clear hJ b0 b1 b2 b3 b4 m4
          rw [q25, q18]
          clear q25 q18
          go_simp
          refine hK.out _ undef _ ?_ (HQ.out ▸ (HJ.out.op13 e5 e11 n15 _))
          simp only [HQ.out, HQ2.out, setAll, List.foldl_cons, List.foldl_nil, Act.put, List.setIfInBounds_toArray, List.set_cons_succ, List.set_cons_zero]
        refine InvAllF.cons (o := ⟨some 26, _, _, _, _, _⟩) (by kernel_rfl) (fun D s W hD hdep hno hJ K hK => ?_) ?_
        · have e1 : D 1 = true := hdep 1 (by kernel_rfl)
          have e4 : D 4 = true := hdep 4 (by kernel_rfl)
          have e5 : D 5 = true := hdep 5 (by kernel_rfl)
          have e7 : D 7 = true := hdep 7 (by kernel_rfl)
          have e10 : D 10 = true := hdep 10 (by kernel_rfl)
          have e11 : D 11 = true := hdep 11 (by kernel_rfl)
          have e12 : D 12 = true := hdep 12 (by kernel_rfl)
          have e13 : D 13 = true := hdep 13 (by kernel_rfl)
          have n15 : D 15 = false := hno 15 (by kernel_rfl)
          clear hdep hno
          simp only [setAll, List.foldl_cons, List.foldl_nil, Act.put, List.setIfInBounds_toArray, List.set_cons_succ, List.set_cons_zero]
          have HJ := Lib.hid hJ
          clear hJ
          go_simp
          refine hK.out _ _ _ ?_ HJ.out.op14
          simp only [setAll, List.foldl_cons, List.foldl_nil, Act.put, List.setIfInBounds_toArray, List.set_cons_succ, List.set_cons_zero]
        refine InvAllF.cons (o := ⟨none, _, _, _, _, _⟩) (by kernel_rfl) (fun D s W hD hdep hno hJ K hK => ?_) ?_
        · have e1 : D 1 = true := hdep 1 (by kernel_rfl)
          have e4 : D 4 = true := hdep 4 (by kernel_rfl)
          have e5 : D 5 = true := hdep 5 (by kernel_rfl)
          have e7 : D 7 = true := hdep 7 (by kernel_rfl)
          have e10 : D 10 = true := hdep 10 (by kernel_rfl)
          have e11 : D 11 = true := hdep 11 (by kernel_rfl)
          have e12 : D 12 = true := hdep 12 (by kernel_rfl)
          have e13 : D 13 = true := hdep 13 (by kernel_rfl)
          have e14 : D 14 = true := hdep 14 (by kernel_rfl)
          clear hdep hno
          simp only [setAll, List.foldl_cons, List.foldl_nil, Act.put, List.setIfInBounds_toArray, List.set_cons_succ, List.set_cons_zero]
          obtain ⟨a2, c2, q24, -⟩ := hJ.v1 e11
          have q26 := hJ.s26 e14
          have HBk := Lib.hid hJ.blk
          have b0 := HBk.out.cell 0
          have b1 := HBk.out.cell 1
          have b2 := HBk.out.cell 2
          have b3 := HBk.out.cell 3
          have b4 := HBk.out.cell 4
          have b5 := HBk.out.cell 5
          have m4 := HBk.out.free 4
          have m5 := HBk.out.free 5
          unfold recC at b0 b1 b2 b3 b4 b5
          simp only [List.getElem?_toArray, List.getElem?_cons_zero, List.getElem?_cons_succ] at b0 b1 b2 b3 b4 b5
          clear HBk
          have HQ := Lib.hid q24
          have HQ2 := Lib.hid q26
          have HJ := Lib.hid hJ
          clear hJ b0 b1 b2 b3 b5 m5
          rw [q26, q24]
          clear q26 q24
          go_simp
          refine hK.out _ undef _ ?_ (HQ.out ▸ (HJ.out.op15 e5 e11 e13 _))
          simp only [HQ.out, HQ2.out, setAll, List.foldl_cons, List.foldl_nil, Act.put, List.setIfInBounds_toArray, List.set_cons_succ, List.set_cons_zero]
        exact InvAllF.nil
      · intro D s W hD hJ
        have HE := Lib.hid (hJ.ends (hD 5 (by decide)) (hD 11 (by decide)) (hD 13 (by decide)) (hD 15 (by decide)))
        clear hJ hD
        simp only [setAll, List.foldl_cons, List.foldl_nil, Act.put, List.setIfInBounds_toArray, List.set_cons_succ, List.set_cons_zero]
        go_wp2
        go_roundw
        case rel => exact ⟨k + 1, by omega, by go_num, Lib.hid (by rw [take_snoc1 HX.out, ← HT.out]; exact HE.out)⟩
        case measure => simp [intOf]; omega
    · have hkn : k = parts.length := by omega
      have HE := HL
      clear HL
      have v0 := HE.out.blk.cell 0
      have v1 := HE.out.blk.cell 1
      have v2 := HE.out.blk.cell 2
      have v3 := HE.out.blk.cell 3
      have v4 := HE.out.blk.cell 4
      have v5 := HE.out.blk.cell 5
      have z0 := HE.out.res.cell 0
      have z1 := HE.out.res.cell 1
      have z2 := HE.out.res.cell 2
      have z3 := HE.out.res.cell 3
      have z4 := HE.out.res.cell 4
      have z5 := HE.out.res.cell 5
      have f0 := HE.out.res.free 0
      have f1 := HE.out.res.free 1
      have f2 := HE.out.res.free 2
      have f3 := HE.out.res.free 3
      have f4 := HE.out.res.free 4
      have f5 := HE.out.res.free 5
      unfold recC at v0 v1 v2 v3 v4 v5
      unfold zeroC at z0 z1 z2 z3 z4 z5
      simp only [List.getElem?_toArray, List.getElem?_cons_zero, List.getElem?_cons_succ] at v0 v1 v2 v3 v4 v5 z0 z1 z2 z3 z4 z5
      have HN : Hid (l = parts) := Lib.hid (by rw [HT.out, hkn]; simp)
      clear hkn
      go_wp2
      refine rec_end (g := w.heap.size) rfl (store6 HE.out.res) ?_
      have h := HE.out
      exact HN.out ▸ h.doc (o := 0) HPP.out (HN.out ▸ HP.out.vals) (Nat.le_refl _) rfl
end Go.Proofs.YthnbeebilomchaaGreatDoor

namespace Go.Proofs.YthnbeebilomchaaGreatDoor
open Go Go.RowKit

/-- a text, a number as a value -/
def strD (s : Nm) : VD := .mk 3 false 0 s none 0 [] none 0 []
def numD (n : Int) : VD := .mk 2 false n [] none 0 [] none 0 []
theorem ptC_str (k s : Nm) : ptC (k, strD s) = [.string ⟨k.toArray⟩, .int .i64 3, .bool false, .int .i64 0, .string ⟨s.toArray⟩, .slice none 0 0, .slice none 0 0] := rfl
theorem ptC_num (k : Nm) (n : Int) : ptC (k, numD n) = [.string ⟨k.toArray⟩, .int .i64 2, .bool false, .int .i64 n, .string { data := #[] }, .slice none 0 0, .slice none 0 0] := rfl
theorem ptC_of (k : Nm) (d : VD) : ptC (k, d) = [.string ⟨k.toArray⟩, .int .i64 d.sort, .bool d.on, .int .i64 d.n, .string ⟨d.text.toArray⟩, .slice d.a d.list.length d.c, .slice d.ka d.keys.length d.kc] := by obtain ⟨s, o, n, t, va, vc, l2, ka, kc, ks⟩ := d; rfl
theorem docS {w wr : World} {P P' : Nat → Prop} {gr o : Nat} {v : V} {d : VD} (hv : d.v = v) (hd : ValAt wr P' d) (hp : ∀ g, P' g → g ≠ gr ∧ P g) (hb : Below w.heap.size w wr) (hg : w.heap.size ≤ gr) :
    DocP w P v (.returned (.agg #[.int .i64 d.sort, .bool d.on, .int .i64 d.n, .string ⟨d.text.toArray⟩, .slice d.a d.list.length d.c, .slice d.ka d.keys.length d.kc])) (put6 wr gr o (.int .i64 d.sort) (.bool d.on) (.int .i64 d.n) (.string ⟨d.text.toArray⟩) (.slice d.a d.list.length d.c) (.slice d.ka d.keys.length d.kc)) :=
  ⟨d, rfl, hv, (hd.congr fun g h _ => put6_other (hp g h).1).mono fun g h _ => (hp g h).2, put6_below hb hg⟩
theorem reply_end {W : World} {tm : Array Value} {R : Ending → World → Prop} {g : Nat} {u0 u1 u2 u3 u4 u5 : Value} (h2 : tm.getD 4 undef = .pointer (some ⟨g, 0, none⟩)) (hB : Blk W g #[u0, u1, u2, u3, u4, u5] 36)
    (hR : R (.returned (.agg #[u0, u1, u2, u3, u4, u5])) W) : bodyPost Tryz.prog Tryz.f14 R .ret { tmps := tm, defers := [] } W := by
  have d0 := hB.cell 0
  have d1 := hB.cell 1
  have d2 := hB.cell 2
  have d3 := hB.cell 3
  have d4 := hB.cell 4
  have d5 := hB.cell 5
  simp only [List.getElem?_toArray, List.getElem?_cons_zero, List.getElem?_cons_succ] at d0 d1 d2 d3 d4 d5
  rw [Array.getD_eq_getD_getElem?] at h2
  refine bodyPost_ret (v := .agg #[u0, u1, u2, u3, u4, u5]) ?_ rfl hR
  simp [results, Tryz.results14, go_sem, h2, d0, d1, d2, d3, d4, d5]
theorem note_end {W : World} {tm : Array Value} {R : Ending → World → Prop} {g : Nat} {u0 u1 u2 u3 u4 u5 : Value} (h2 : tm.getD 4 undef = .pointer (some ⟨g, 0, none⟩)) (hB : Blk W g #[u0, u1, u2, u3, u4, u5] 36)
    (hR : R (.returned (.agg #[u0, u1, u2, u3, u4, u5])) W) : bodyPost Tryz.prog Tryz.f17 R .ret { tmps := tm, defers := [] } W := by
  have d0 := hB.cell 0
  have d1 := hB.cell 1
  have d2 := hB.cell 2
  have d3 := hB.cell 3
  have d4 := hB.cell 4
  have d5 := hB.cell 5
  simp only [List.getElem?_toArray, List.getElem?_cons_zero, List.getElem?_cons_succ] at d0 d1 d2 d3 d4 d5
  rw [Array.getD_eq_getD_getElem?] at h2
  refine bodyPost_ret (v := .agg #[u0, u1, u2, u3, u4, u5]) ?_ rfl hR
  simp [results, Tryz.results17, go_sem, h2, d0, d1, d2, d3, d4, d5]
set_option maxHeartbeats 4000000 in
set_option maxRecDepth 20000 in
theorem note_any (m : Nm) (r : VD) (w : World) (hr : ValAt w (fun _ => True) r) : Calls Tryz.prog 17 #[.string ⟨m.toArray⟩, r.val] w (DocE w (noteW m r.v)) := by
  obtain ⟨W0, hW0⟩ : ∃ W0, W0 = (w.alloc (.cells #[.int .i64 r.sort, .bool r.on, .int .i64 r.n, .string ⟨r.text.toArray⟩, .slice r.a r.list.length r.c, .slice r.ka r.keys.length r.kc] 36)).alloc (.cells #[.int .i64 0, .bool false, .int .i64 0, .string { data := #[] }, .slice none 0 0, .slice none 0 0] 36) := ⟨_, rfl⟩
  have HR : Hid (Blk W0 w.heap.size #[.int .i64 r.sort, .bool r.on, .int .i64 r.n, .string ⟨r.text.toArray⟩, .slice r.a r.list.length r.c, .slice r.ka r.keys.length r.kc] 36) := Lib.hid (by rw [hW0]; exact (Blk.new rfl).alloc _)
  have HZ : Hid (Blk W0 (w.heap.size + 1) #[.int .i64 0, .bool false, .int .i64 0, .string { data := #[] }, .slice none 0 0, .slice none 0 0] 36) := Lib.hid (by rw [hW0]; exact Blk.new (by simp))
  have HW : Hid (Below w.heap.size w W0) := Lib.hid (by rw [hW0]; exact (below_a1 w _).alloc (by simp) _)
  have HVR : Hid (ValAt w (fun g => g ≠ w.heap.size + 1) r) := Lib.hid (hr.mono fun g _ h => by omega)
  have hw0 := HZ.out.lt
  have HPP : Hid (∀ W : World, W0.heap.size ≤ W.heap.size → ∀ g, W.heap.size ≤ g → g ≠ w.heap.size + 1) := Lib.hid fun W h g hg => by omega
  have HK : Hid (∀ w' : World, Below W0.heap.size W0 w' → (fun w' => Blk w' w.heap.size #[.int .i64 r.sort, .bool r.on, .int .i64 r.n, .string ⟨r.text.toArray⟩, .slice r.a r.list.length r.c, .slice r.ka r.keys.length r.kc] 36) w') := Lib.hid fun w' hb => HR.out.ext hb
  rw [VD.val6]
  clear hr
  go_enter Tryz.func17, Tryz.ntmps17
  go_upto_region 1 with (fail)
  rw [← hW0]
  clear hW0
  have HB0 : Hid (Below W0.heap.size W0 W0.drew) := Lib.hid (Below.refl _ _).drew
  obtain ⟨Wd, hWd⟩ : ∃ Wd, Wd = W0.drew := ⟨_, rfl⟩
  have HB : Hid (Below W0.heap.size W0 Wd) := Lib.hid (by rw [hWd]; exact HB0.out)
  refine wp_region_held_drew (S := (fun w' => Blk w' w.heap.size #[.int .i64 r.sort, .bool r.on, .int .i64 r.n, .string ⟨r.text.toArray⟩, .slice r.a r.list.length r.c, .slice r.ka r.keys.length r.kc] 36)) (by kernel_rfl) ?_ (fun hHeld => ?_)
  · exact HK.out _ HB0.out
  rw [← hWd] at hHeld ⊢
  clear hWd HB0
  refine wpAnyH_take (i := 2) (oi := ⟨some 7, _, _, _, _, _⟩) (v := ?_) rfl (by kernel_rfl) (by kernel_rfl) (by kernel_rfl) (fun _ _ _ h => h) (Or.inl ⟨by rfl, ?_⟩) (by assumption) ?_; rotate_left; focus (intro w hSw; (try dsimp only at hSw); first | (go_simp; done) | (go_simp; with_reducible rfl))
  try simp only [Act.put]
  try simp only [List.setIfInBounds_toArray]
  try simp only [List.set_cons_succ, List.set_cons_zero]
  refine wpAnyH_take (i := 5) (oi := ⟨some 10, _, _, _, _, _⟩) (v := ?_) rfl (by kernel_rfl) (by kernel_rfl) (by kernel_rfl) (fun _ _ _ h => h) (Or.inl ⟨by rfl, ?_⟩) (by assumption) ?_; rotate_left; focus (intro w hSw; (try dsimp only at hSw); obtain ⟨a0, a1, a2, a3, a4, a5⟩ := Blk.sixT hSw; first | (go_simp; done) | (go_simp; with_reducible rfl))
  try simp only [Act.put]
  try simp only [List.setIfInBounds_toArray]
  try simp only [List.set_cons_succ, List.set_cons_zero]
  refine wpAnyH_take (i := 6) (oi := ⟨some 11, _, _, _, _, _⟩) (v := ?_) rfl (by kernel_rfl) (by kernel_rfl) (by kernel_rfl) (fun _ _ _ h => h) (Or.inl ⟨by rfl, ?_⟩) (by assumption) ?_; rotate_left; focus (intro w hSw; (try dsimp only at hSw); first | (go_simp; done) | (go_simp; with_reducible rfl))
  try simp only [Act.put]
  try simp only [List.setIfInBounds_toArray]
  try simp only [List.set_cons_succ, List.set_cons_zero]
  refine wpAnyH_ready (rs := [0]) (by kernel_rfl) (by simp) ?_
  refine AllReadyH.cons (i := 0) (o := ⟨some 5, _, _, _, _, _⟩) rfl (fun K hK => ?_) ?_
  · go_simp
    refine (str_any v20 _).mono ?_
    rintro e ws ⟨rfl, hb⟩
    have HBn : Hid (Below W0.heap.size W0 ws) := Lib.hid (HB.out.trans (hb.mono HB.out.size))
    clear HB hb
    have HB := HBn
    clear HBn
    refine hK.out _ _ ?_ (fun hHeld => ?_)
    · exact HK.out _ HB.out
    try simp only [Act.put]
    try simp only [List.setIfInBounds_toArray]
    try simp only [List.set_cons_succ, List.set_cons_zero]
    refine wpAnyH_take (i := 1) (oi := ⟨some 6, _, _, _, _, _⟩) (v := ?_) rfl (by kernel_rfl) (by kernel_rfl) (by kernel_rfl) (fun _ _ _ h => h) (Or.inl ⟨by rfl, ?_⟩) (by assumption) ?_; rotate_left; focus (intro w hSw; (try dsimp only at hSw); first | (go_simp; done) | (go_simp; with_reducible rfl))
    try simp only [Act.put]
    try simp only [List.setIfInBounds_toArray]
    try simp only [List.set_cons_succ, List.set_cons_zero]
    refine wpAnyH_ready (rs := [3]) (by kernel_rfl) (by simp) ?_
    refine AllReadyH.cons (i := 3) (o := ⟨some 8, _, _, _, _, _⟩) rfl (fun K hK => ?_) ?_
    · go_simp
      refine (str_any m _).mono ?_
      rintro e wt ⟨rfl, hb⟩
      have HBn : Hid (Below W0.heap.size W0 wt) := Lib.hid (HB.out.trans (hb.mono HB.out.size))
      clear HB hb
      have HB := HBn
      clear HBn
      refine hK.out _ _ ?_ (fun hHeld => ?_)
      · exact HK.out _ HB.out
      try simp only [Act.put]
      try simp only [List.setIfInBounds_toArray]
      try simp only [List.set_cons_succ, List.set_cons_zero]
      refine wpAnyH_take (i := 4) (oi := ⟨some 9, _, _, _, _, _⟩) (v := ?_) rfl (by kernel_rfl) (by kernel_rfl) (by kernel_rfl) (fun _ _ _ h => h) (Or.inl ⟨by rfl, ?_⟩) (by assumption) ?_; rotate_left; focus (intro w hSw; (try dsimp only at hSw); first | (go_simp; done) | (go_simp; with_reducible rfl))
      try simp only [Act.put]
      try simp only [List.setIfInBounds_toArray]
      try simp only [List.set_cons_succ, List.set_cons_zero]
      refine wpAnyH_ready (rs := [7]) (by kernel_rfl) (by simp) ?_
      refine AllReadyH.cons (i := 7) (o := ⟨some 12, _, _, _, _, _⟩) rfl (fun K hK => ?_) ?_
      · obtain ⟨gv, hgv⟩ : ∃ gv, gv = wt.heap.size := ⟨_, rfl⟩
        obtain ⟨wv, hwv⟩ : ∃ wv, wv = wt.alloc (.cells ([(kJson, strD v20), (kMethod, strD m), (kParams, r)].flatMap ptC).toArray 74) := ⟨_, rfl⟩
        have hb : Below wt.heap.size wt wv := by rw [hwv]; exact below_a1 _ _
        have HPgv : Hid (PtsAt wv (fun g => g ≠ w.heap.size + 1) (some ⟨gv, 0, none⟩) [(kJson, strD v20), (kMethod, strD m), (kParams, r)]) := Lib.hid ⟨by rw [hwv, hgv]; exact row_blk (Blk.new rfl) (flat_length ptC 7 ptC_len _), fun p hp => by
          simp only [List.mem_cons, List.mem_nil_iff, or_false] at hp
          rcases hp with rfl | rfl | rfl
          · exact .leaf
          · exact .leaf
          · exact (HVR.out.ext (HW.out.trans ((HB.out.trans (hb.mono HB.out.size)).mono HW.out.size)))⟩
        have HBn : Hid (Below W0.heap.size W0 wv) := Lib.hid (HB.out.trans (hb.mono HB.out.size))
        clear HB hb
        have HB := HBn
        clear HBn
        simp only [List.flatMap_cons, List.flatMap_nil] at hwv
        try simp only [ptC_str] at hwv
        try simp only [ptC_num] at hwv
        try simp only [ptC_of] at hwv
        simp only [List.cons_append, List.nil_append, List.append_nil, kJson, kMethod, kParams] at hwv
        go_simp
        rw [← hwv, ← hgv]
        clear hwv hgv
        refine hK.out _ _ ?_ (fun hHeld => ?_)
        · exact HK.out _ HB.out
        try simp only [Act.put]
        try simp only [List.setIfInBounds_toArray]
        try simp only [List.set_cons_succ, List.set_cons_zero]
        refine wpAnyH_ready (rs := [8]) (by kernel_rfl) (by simp) ?_
        refine AllReadyH.cons (i := 8) (o := ⟨some 13, _, _, _, _, _⟩) rfl (fun K hK => ?_) ?_
        · go_simp
          have hR := record_any (fun g => g ≠ w.heap.size + 1) (some ⟨gv, 0, none⟩) 3 [(kJson, strD v20), (kMethod, strD m), (kParams, r)] wv (HPP.out _ HB.out.size) HPgv.out (by simp)
          simp only [List.length_cons, List.length_nil, Nat.zero_add, Nat.reduceAdd] at hR
          refine hR.mono ?_
          clear hR
          rintro e wr ⟨d, rfl, hvd, hdd, hb⟩
          have HVd := Lib.hid hvd
          have HDd := Lib.hid hdd
          clear hvd hdd
          have HBn : Hid (Below W0.heap.size W0 wr) := Lib.hid (HB.out.trans (hb.mono HB.out.size))
          clear HB hb
          have HB := HBn
          clear HBn
          refine hK.out _ _ ?_ (fun hHeld => ?_)
          · exact HK.out _ HB.out
          try simp only [Act.put]
          try simp only [List.setIfInBounds_toArray]
          try simp only [List.set_cons_succ, List.set_cons_zero]
          refine wpAnyH_ready (rs := [9]) (by kernel_rfl) (by simp) ?_
          refine AllReadyH.cons (i := 9) (o := ⟨none, _, _, _, _, _⟩) rfl (fun K hK => ?_) ?_
          · have HZr := Lib.hid (HZ.out.ext HB.out)
            have f0 := HZr.out.free 0
            have f1 := HZr.out.free 1
            have f2 := HZr.out.free 2
            have f3 := HZr.out.free 3
            have f4 := HZr.out.free 4
            have f5 := HZr.out.free 5
            obtain ⟨z0, z1, z2, z3, z4, z5⟩ := HZr.out.sixT
            go_simp
            refine hK.out _ _ ?_ (fun hHeld => ?_)
            · exact (put6_other (g := w.heap.size + 1) (o := 0) (by omega)).trans (HK.out _ HB.out)
            try simp only [Act.put]
            try simp only [List.setIfInBounds_toArray]
            try simp only [List.set_cons_succ, List.set_cons_zero]
            refine wpAnyH_done (by kernel_rfl) ?_ _
            clear hHeld
            go_wp2
            refine note_end (g := w.heap.size + 1) rfl (store6 HZr.out) ?_
            exact (docS (P := fun _ => True) (o := 0) HVd.out HDd.out (fun g h => ⟨h, trivial⟩) (HW.out.trans (HB.out.mono HW.out.size)) (by omega)).doc
          exact AllReadyH.nil
        exact AllReadyH.nil
      exact AllReadyH.nil
    exact AllReadyH.nil
  exact AllReadyH.nil
theorem at_end {W : World} {tm : Array Value} {R : Ending → World → Prop} {g : Nat} {u0 u1 u2 u3 u4 u5 : Value} (h2 : tm.getD 2 undef = .pointer (some ⟨g, 0, none⟩)) (hB : Blk W g #[u0, u1, u2, u3, u4, u5] 36)
    (hR : R (.returned (.agg #[u0, u1, u2, u3, u4, u5])) W) : bodyPost Tryz.prog Tryz.f55 R .ret { tmps := tm, defers := [] } W := by
  have d0 := hB.cell 0
  have d1 := hB.cell 1
  have d2 := hB.cell 2
  have d3 := hB.cell 3
  have d4 := hB.cell 4
  have d5 := hB.cell 5
  simp only [List.getElem?_toArray, List.getElem?_cons_zero, List.getElem?_cons_succ] at d0 d1 d2 d3 d4 d5
  rw [Array.getD_eq_getD_getElem?] at h2
  refine bodyPost_ret (v := .agg #[u0, u1, u2, u3, u4, u5]) ?_ rfl hR
  simp [results, Tryz.results55, go_sem, h2, d0, d1, d2, d3, d4, d5]
set_option maxHeartbeats 4000000 in
set_option maxRecDepth 20000 in
theorem at_any (P : Nat → Prop) (a b : Int) (w : World) (hP : ∀ g, w.heap.size ≤ g → P g) : Calls Tryz.prog 55 #[.agg #[.int .i64 a, .int .i64 b]] w (DocP w P (atW a b)) := by
  obtain ⟨W0, hW0⟩ : ∃ W0, W0 = (w.alloc (.cells #[.int .i64 a, .int .i64 b] 29)).alloc (.cells #[.int .i64 0, .bool false, .int .i64 0, .string { data := #[] }, .slice none 0 0, .slice none 0 0] 36) := ⟨_, rfl⟩
  have HR : Hid (Blk W0 w.heap.size #[.int .i64 a, .int .i64 b] 29) := Lib.hid (by rw [hW0]; exact (Blk.new rfl).alloc _)
  have HZ : Hid (Blk W0 (w.heap.size + 1) #[.int .i64 0, .bool false, .int .i64 0, .string { data := #[] }, .slice none 0 0, .slice none 0 0] 36) := Lib.hid (by rw [hW0]; exact Blk.new (by simp))
  have HW : Hid (Below w.heap.size w W0) := Lib.hid (by rw [hW0]; exact (below_a1 w _).alloc (by simp) _)
  have HP := Lib.hid hP
  have hw0 := HZ.out.lt
  have HPP : Hid (∀ W : World, W0.heap.size ≤ W.heap.size → ∀ g, W.heap.size ≤ g → w.heap.size + 1 < g) := Lib.hid fun W h g hg => by omega
  have HK : Hid (∀ w' : World, Below W0.heap.size W0 w' → (fun w' => Blk w' w.heap.size #[.int .i64 a, .int .i64 b] 29) w') := Lib.hid fun w' hb => HR.out.ext hb
  clear hP
  go_enter Tryz.func55, Tryz.ntmps55
  go_upto_region 1 with (fail)
  rw [← hW0]
  clear hW0
  have HB0 : Hid (Below W0.heap.size W0 W0.drew) := Lib.hid (Below.refl _ _).drew
  obtain ⟨Wd, hWd⟩ : ∃ Wd, Wd = W0.drew := ⟨_, rfl⟩
  have HB : Hid (Below W0.heap.size W0 Wd) := Lib.hid (by rw [hWd]; exact HB0.out)
  refine wp_region_held_drew (S := (fun w' => Blk w' w.heap.size #[.int .i64 a, .int .i64 b] 29)) (by kernel_rfl) ?_ (fun hHeld => ?_)
  · exact HK.out _ HB0.out
  rw [← hWd] at hHeld ⊢
  clear hWd HB0
  refine wpAnyH_take (i := 0) (oi := ⟨some 3, _, _, _, _, _⟩) (v := ?_) rfl (by kernel_rfl) (by kernel_rfl) (by kernel_rfl) (fun _ _ _ h => h) (Or.inl ⟨by rfl, ?_⟩) (by assumption) ?_; rotate_left; focus (intro w hSw; (try dsimp only at hSw); first | (go_simp; done) | (go_simp; with_reducible rfl))
  try simp only [Act.put]
  try simp only [List.setIfInBounds_toArray]
  try simp only [List.set_cons_succ, List.set_cons_zero]
  refine wpAnyH_take (i := 1) (oi := ⟨some 4, _, _, _, _, _⟩) (v := ?_) rfl (by kernel_rfl) (by kernel_rfl) (by kernel_rfl) (fun _ _ _ h => h) (Or.inl ⟨by rfl, ?_⟩) (by assumption) ?_; rotate_left; focus (intro w hSw; (try dsimp only at hSw); have q0 := hSw.cell 0; simp only [List.getElem?_toArray, List.getElem?_cons_zero] at q0; first | (go_simp; done) | (go_simp; with_reducible rfl))
  try simp only [Act.put]
  try simp only [List.setIfInBounds_toArray]
  try simp only [List.set_cons_succ, List.set_cons_zero]
  refine wpAnyH_take (i := 4) (oi := ⟨some 7, _, _, _, _, _⟩) (v := ?_) rfl (by kernel_rfl) (by kernel_rfl) (by kernel_rfl) (fun _ _ _ h => h) (Or.inl ⟨by rfl, ?_⟩) (by assumption) ?_; rotate_left; focus (intro w hSw; (try dsimp only at hSw); first | (go_simp; done) | (go_simp; with_reducible rfl))
  try simp only [Act.put]
  try simp only [List.setIfInBounds_toArray]
  try simp only [List.set_cons_succ, List.set_cons_zero]
  refine wpAnyH_take (i := 5) (oi := ⟨some 8, _, _, _, _, _⟩) (v := ?_) rfl (by kernel_rfl) (by kernel_rfl) (by kernel_rfl) (fun _ _ _ h => h) (Or.inl ⟨by rfl, ?_⟩) (by assumption) ?_; rotate_left; focus (intro w hSw; (try dsimp only at hSw); have q0 := hSw.cell 1; simp only [List.getElem?_toArray, List.getElem?_cons_zero, List.getElem?_cons_succ] at q0; first | (go_simp; done) | (go_simp; with_reducible rfl))
  try simp only [Act.put]
  try simp only [List.setIfInBounds_toArray]
  try simp only [List.set_cons_succ, List.set_cons_zero]
  refine wpAnyH_ready (rs := [2]) (by kernel_rfl) (by simp) ?_
  refine AllReadyH.cons (i := 2) (o := ⟨some 5, _, _, _, _, _⟩) rfl (fun K hK => ?_) ?_
  · go_simp
    refine (num_any a _).mono ?_
    rintro e ws ⟨rfl, hb⟩
    have HBn : Hid (Below W0.heap.size W0 ws) := Lib.hid (HB.out.trans (hb.mono HB.out.size))
    clear HB hb
    have HB := HBn
    clear HBn
    refine hK.out _ _ ?_ (fun hHeld => ?_)
    · exact HK.out _ HB.out
    try simp only [Act.put]
    try simp only [List.setIfInBounds_toArray]
    try simp only [List.set_cons_succ, List.set_cons_zero]
    refine wpAnyH_take (i := 3) (oi := ⟨some 6, _, _, _, _, _⟩) (v := ?_) rfl (by kernel_rfl) (by kernel_rfl) (by kernel_rfl) (fun _ _ _ h => h) (Or.inl ⟨by rfl, ?_⟩) (by assumption) ?_; rotate_left; focus (intro w hSw; (try dsimp only at hSw); first | (go_simp; done) | (go_simp; with_reducible rfl))
    try simp only [Act.put]
    try simp only [List.setIfInBounds_toArray]
    try simp only [List.set_cons_succ, List.set_cons_zero]
    refine wpAnyH_ready (rs := [6]) (by kernel_rfl) (by simp) ?_
    refine AllReadyH.cons (i := 6) (o := ⟨some 9, _, _, _, _, _⟩) rfl (fun K hK => ?_) ?_
    · go_simp
      refine (num_any b _).mono ?_
      rintro e wt ⟨rfl, hb⟩
      have HBn : Hid (Below W0.heap.size W0 wt) := Lib.hid (HB.out.trans (hb.mono HB.out.size))
      clear HB hb
      have HB := HBn
      clear HBn
      refine hK.out _ _ ?_ (fun hHeld => ?_)
      · exact HK.out _ HB.out
      try simp only [Act.put]
      try simp only [List.setIfInBounds_toArray]
      try simp only [List.set_cons_succ, List.set_cons_zero]
      refine wpAnyH_take (i := 7) (oi := ⟨some 10, _, _, _, _, _⟩) (v := ?_) rfl (by kernel_rfl) (by kernel_rfl) (by kernel_rfl) (fun _ _ _ h => h) (Or.inl ⟨by rfl, ?_⟩) (by assumption) ?_; rotate_left; focus (intro w hSw; (try dsimp only at hSw); first | (go_simp; done) | (go_simp; with_reducible rfl))
      try simp only [Act.put]
      try simp only [List.setIfInBounds_toArray]
      try simp only [List.set_cons_succ, List.set_cons_zero]
      refine wpAnyH_ready (rs := [8]) (by kernel_rfl) (by simp) ?_
      refine AllReadyH.cons (i := 8) (o := ⟨some 11, _, _, _, _, _⟩) rfl (fun K hK => ?_) ?_
      · obtain ⟨gv, hgv⟩ : ∃ gv, gv = wt.heap.size := ⟨_, rfl⟩
        obtain ⟨wv, hwv⟩ : ∃ wv, wv = wt.alloc (.cells ([(kLine, numD a), (kChar, numD b)].flatMap ptC).toArray 74) := ⟨_, rfl⟩
        have hb : Below wt.heap.size wt wv := by rw [hwv]; exact below_a1 _ _
        have HPgv : Hid (PtsAt wv (fun g => w.heap.size + 1 < g) (some ⟨gv, 0, none⟩) [(kLine, numD a), (kChar, numD b)]) := Lib.hid ⟨by rw [hwv, hgv]; exact row_blk (Blk.new rfl) (flat_length ptC 7 ptC_len _), fun p hp => by
          simp only [List.mem_cons, List.mem_nil_iff, or_false] at hp
          rcases hp with rfl | rfl
          · exact .leaf
          · exact .leaf⟩
        have HBn : Hid (Below W0.heap.size W0 wv) := Lib.hid (HB.out.trans (hb.mono HB.out.size))
        clear HB hb
        have HB := HBn
        clear HBn
        simp only [List.flatMap_cons, List.flatMap_nil] at hwv
        try simp only [ptC_str] at hwv
        try simp only [ptC_num] at hwv
        try simp only [ptC_of] at hwv
        simp only [List.cons_append, List.nil_append, List.append_nil, kLine, kChar] at hwv
        go_simp
        rw [← hwv, ← hgv]
        clear hwv hgv
        refine hK.out _ _ ?_ (fun hHeld => ?_)
        · exact HK.out _ HB.out
        try simp only [Act.put]
        try simp only [List.setIfInBounds_toArray]
        try simp only [List.set_cons_succ, List.set_cons_zero]
        refine wpAnyH_ready (rs := [9]) (by kernel_rfl) (by simp) ?_
        refine AllReadyH.cons (i := 9) (o := ⟨some 12, _, _, _, _, _⟩) rfl (fun K hK => ?_) ?_
        · go_simp
          have hR := record_any (fun g => w.heap.size + 1 < g) (some ⟨gv, 0, none⟩) 2 [(kLine, numD a), (kChar, numD b)] wv (HPP.out _ HB.out.size) HPgv.out (by simp)
          simp only [List.length_cons, List.length_nil, Nat.zero_add, Nat.reduceAdd] at hR
          refine hR.mono ?_
          clear hR
          rintro e wr ⟨d, rfl, hvd, hdd, hb⟩
          have HVd := Lib.hid hvd
          have HDd := Lib.hid hdd
          clear hvd hdd
          have HBn : Hid (Below W0.heap.size W0 wr) := Lib.hid (HB.out.trans (hb.mono HB.out.size))
          clear HB hb
          have HB := HBn
          clear HBn
          refine hK.out _ _ ?_ (fun hHeld => ?_)
          · exact HK.out _ HB.out
          try simp only [Act.put]
          try simp only [List.setIfInBounds_toArray]
          try simp only [List.set_cons_succ, List.set_cons_zero]
          refine wpAnyH_ready (rs := [10]) (by kernel_rfl) (by simp) ?_
          refine AllReadyH.cons (i := 10) (o := ⟨none, _, _, _, _, _⟩) rfl (fun K hK => ?_) ?_
          · have HZr := Lib.hid (HZ.out.ext HB.out)
            have f0 := HZr.out.free 0
            have f1 := HZr.out.free 1
            have f2 := HZr.out.free 2
            have f3 := HZr.out.free 3
            have f4 := HZr.out.free 4
            have f5 := HZr.out.free 5
            obtain ⟨z0, z1, z2, z3, z4, z5⟩ := HZr.out.sixT
            go_simp
            refine hK.out _ _ ?_ (fun hHeld => ?_)
            · exact (put6_other (g := w.heap.size + 1) (o := 0) (by omega)).trans (HK.out _ HB.out)
            try simp only [Act.put]
            try simp only [List.setIfInBounds_toArray]
            try simp only [List.set_cons_succ, List.set_cons_zero]
            refine wpAnyH_done (by kernel_rfl) ?_ _
            clear hHeld
            go_wp2
            refine at_end (g := w.heap.size + 1) rfl (store6 HZr.out) ?_
            exact docS (P := P) (o := 0) HVd.out HDd.out (fun g h => ⟨by omega, HP.out g (by omega)⟩) (HW.out.trans (HB.out.mono HW.out.size)) (by omega)
          exact AllReadyH.nil
        exact AllReadyH.nil
      exact AllReadyH.nil
    exact AllReadyH.nil
  exact AllReadyH.nil
theorem fail_end {W : World} {tm : Array Value} {R : Ending → World → Prop} {g : Nat} {u0 u1 u2 u3 u4 u5 : Value} (h2 : tm.getD 4 undef = .pointer (some ⟨g, 0, none⟩)) (hB : Blk W g #[u0, u1, u2, u3, u4, u5] 36)
    (hR : R (.returned (.agg #[u0, u1, u2, u3, u4, u5])) W) : bodyPost Tryz.prog Tryz.f16 R .ret { tmps := tm, defers := [] } W := by
  have d0 := hB.cell 0
  have d1 := hB.cell 1
  have d2 := hB.cell 2
  have d3 := hB.cell 3
  have d4 := hB.cell 4
  have d5 := hB.cell 5
  simp only [List.getElem?_toArray, List.getElem?_cons_zero, List.getElem?_cons_succ] at d0 d1 d2 d3 d4 d5
  rw [Array.getD_eq_getD_getElem?] at h2
  refine bodyPost_ret (v := .agg #[u0, u1, u2, u3, u4, u5]) ?_ rfl hR
  simp [results, Tryz.results16, go_sem, h2, d0, d1, d2, d3, d4, d5]
set_option maxHeartbeats 4000000 in
set_option maxRecDepth 20000 in
theorem fail_any (i : VD) (c : Int) (w : World) (hi : ValAt w (fun _ => True) i) : Calls Tryz.prog 16 #[i.val, .int .i64 c] w (DocE w (failW i.v c)) := by
  obtain ⟨n, hn⟩ : ∃ n, n = codeN c := ⟨_, rfl⟩
  obtain ⟨s, hs⟩ : ∃ s, s = codeNm n := ⟨_, rfl⟩
  have h1 : ∀ w, Calls Tryz.prog 37 #[.int .i64 c] w (fun r w' => r = .returned (.agg #[.int .i64 n, .string ⟨s.toArray⟩]) ∧ Below w.heap.size w w') := fun w => (codes_any c w).mono fun r w' h => by rw [hs, hn]; exact h
  have HC := Lib.hid h1
  have HNS := Lib.hid (And.intro hn hs)
  have HI : Hid (Blk ((w.alloc (.cells #[.int .i64 i.sort, .bool i.on, .int .i64 i.n, .string ⟨i.text.toArray⟩, .slice i.a i.list.length i.c, .slice i.ka i.keys.length i.kc] 36)).alloc (.cells #[.int .i64 0, .bool false, .int .i64 0, .string { data := #[] }, .slice none 0 0, .slice none 0 0] 36)) w.heap.size #[.int .i64 i.sort, .bool i.on, .int .i64 i.n, .string ⟨i.text.toArray⟩, .slice i.a i.list.length i.c, .slice i.ka i.keys.length i.kc] 36) := Lib.hid ((Blk.new rfl).alloc _)
  have HZ : Hid (Blk ((w.alloc (.cells #[.int .i64 i.sort, .bool i.on, .int .i64 i.n, .string ⟨i.text.toArray⟩, .slice i.a i.list.length i.c, .slice i.ka i.keys.length i.kc] 36)).alloc (.cells #[.int .i64 0, .bool false, .int .i64 0, .string { data := #[] }, .slice none 0 0, .slice none 0 0] 36)) (w.heap.size + 1) #[.int .i64 0, .bool false, .int .i64 0, .string { data := #[] }, .slice none 0 0, .slice none 0 0] 36) := Lib.hid (Blk.new (by simp))
  have HW : Hid (Below w.heap.size w ((w.alloc (.cells #[.int .i64 i.sort, .bool i.on, .int .i64 i.n, .string ⟨i.text.toArray⟩, .slice i.a i.list.length i.c, .slice i.ka i.keys.length i.kc] 36)).alloc (.cells #[.int .i64 0, .bool false, .int .i64 0, .string { data := #[] }, .slice none 0 0, .slice none 0 0] 36))) := Lib.hid ((below_a1 w _).alloc (by simp) _)
  have HVI : Hid (ValAt w (fun g => g ≠ w.heap.size + 1) i) := Lib.hid (hi.mono fun g _ h => by omega)
  rw [VD.val6]
  clear hi h1 hn hs
  go_enter Tryz.func16, Tryz.ntmps16
  go_wp2_with fail
  refine (HC.out _).mono ?_
  rintro e w1 ⟨rfl, hb⟩
  have HI1 := Lib.hid (HI.out.ext hb)
  have HZ1 := Lib.hid (HZ.out.ext hb)
  have HW1 := Lib.hid (HW.out.trans (hb.mono HW.out.size))
  clear hb HI HZ HW HC
  obtain ⟨gc, hgc⟩ : ∃ gc, gc = w1.heap.size := ⟨_, rfl⟩
  obtain ⟨W0, hW0⟩ : ∃ W0, W0 = w1.alloc (.cells #[.int .i64 n, .string ⟨s.toArray⟩] 88) := ⟨_, rfl⟩
  have HI := Lib.hid (show Blk W0 _ _ _ by rw [hW0]; exact HI1.out.alloc _)
  have HZ := Lib.hid (show Blk W0 _ _ _ by rw [hW0]; exact HZ1.out.alloc _)
  have HW : Hid (Below w.heap.size w W0) := Lib.hid (by rw [hW0]; exact HW1.out.alloc HW1.out.size _)
  have HCB : Hid (Blk W0 gc #[.int .i64 n, .string ⟨s.toArray⟩] 88) := Lib.hid (by rw [hW0, hgc]; exact Blk.new rfl)
  have HGC : Hid (w.heap.size + 1 < gc) := Lib.hid (by rw [hgc]; exact HZ1.out.lt)
  have hw0 := HZ.out.lt
  have HPP : Hid (∀ W : World, W0.heap.size ≤ W.heap.size → ∀ g, W.heap.size ≤ g → g ≠ w.heap.size + 1) := Lib.hid fun W h g hg => by omega
  have HK : Hid (∀ w' : World, Below W0.heap.size W0 w' → (fun w' => Blk w' w.heap.size #[.int .i64 i.sort, .bool i.on, .int .i64 i.n, .string ⟨i.text.toArray⟩, .slice i.a i.list.length i.c, .slice i.ka i.keys.length i.kc] 36 ∧ Blk w' gc #[.int .i64 n, .string ⟨s.toArray⟩] 88) w') := Lib.hid fun w' hb => ⟨HI.out.ext hb, HCB.out.ext hb⟩
  clear HI1 HZ1 HW1
  go_upto_region 2 with (fail)
  rw [← hW0, ← hgc]
  clear hW0 hgc
  have HB0 : Hid (Below W0.heap.size W0 W0.drew) := Lib.hid (Below.refl _ _).drew
  obtain ⟨Wd, hWd⟩ : ∃ Wd, Wd = W0.drew := ⟨_, rfl⟩
  have HB : Hid (Below W0.heap.size W0 Wd) := Lib.hid (by rw [hWd]; exact HB0.out)
  refine wp_region_held_drew (S := (fun w' => Blk w' w.heap.size #[.int .i64 i.sort, .bool i.on, .int .i64 i.n, .string ⟨i.text.toArray⟩, .slice i.a i.list.length i.c, .slice i.ka i.keys.length i.kc] 36 ∧ Blk w' gc #[.int .i64 n, .string ⟨s.toArray⟩] 88)) (by kernel_rfl) ?_ (fun hHeld => ?_)
  · exact HK.out _ HB0.out
  rw [← hWd] at hHeld ⊢
  clear hWd HB0
  refine wpAnyH_take (i := 2) (oi := ⟨some 10, _, _, _, _, _⟩) (v := ?_) rfl (by kernel_rfl) (by kernel_rfl) (by kernel_rfl) (fun _ _ _ h => h) (Or.inl ⟨by rfl, ?_⟩) (by assumption) ?_; rotate_left; focus (intro w hSw; (try dsimp only at hSw); obtain ⟨h1, h2⟩ := hSw; obtain ⟨a0, a1, a2, a3, a4, a5⟩ := h1.sixT; first | (go_simp; done) | (go_simp; with_reducible rfl))
  try simp only [Act.put]
  try simp only [List.setIfInBounds_toArray]
  try simp only [List.set_cons_succ, List.set_cons_zero]
  refine wpAnyH_take (i := 3) (oi := ⟨some 11, _, _, _, _, _⟩) (v := ?_) rfl (by kernel_rfl) (by kernel_rfl) (by kernel_rfl) (fun _ _ _ h => h) (Or.inl ⟨by rfl, ?_⟩) (by assumption) ?_; rotate_left; focus (intro w hSw; (try dsimp only at hSw); first | (go_simp; done) | (go_simp; with_reducible rfl))
  try simp only [Act.put]
  try simp only [List.setIfInBounds_toArray]
  try simp only [List.set_cons_succ, List.set_cons_zero]
  refine wpAnyH_take (i := 4) (oi := ⟨some 12, _, _, _, _, _⟩) (v := ?_) rfl (by kernel_rfl) (by kernel_rfl) (by kernel_rfl) (fun _ _ _ h => h) (Or.inl ⟨by rfl, ?_⟩) (by assumption) ?_; rotate_left; focus (intro w hSw; (try dsimp only at hSw); first | (go_simp; done) | (go_simp; with_reducible rfl))
  try simp only [Act.put]
  try simp only [List.setIfInBounds_toArray]
  try simp only [List.set_cons_succ, List.set_cons_zero]
  refine wpAnyH_take (i := 5) (oi := ⟨some 13, _, _, _, _, _⟩) (v := ?_) rfl (by kernel_rfl) (by kernel_rfl) (by kernel_rfl) (fun _ _ _ h => h) (Or.inl ⟨by rfl, ?_⟩) (by assumption) ?_; rotate_left; focus (intro w hSw; (try dsimp only at hSw); obtain ⟨h1, h2⟩ := hSw; have q0 := h2.cell 0; simp only [List.getElem?_toArray, List.getElem?_cons_zero] at q0; first | (go_simp; done) | (go_simp; with_reducible rfl))
  try simp only [Act.put]
  try simp only [List.setIfInBounds_toArray]
  try simp only [List.set_cons_succ, List.set_cons_zero]
  refine wpAnyH_take (i := 8) (oi := ⟨some 16, _, _, _, _, _⟩) (v := ?_) rfl (by kernel_rfl) (by kernel_rfl) (by kernel_rfl) (fun _ _ _ h => h) (Or.inl ⟨by rfl, ?_⟩) (by assumption) ?_; rotate_left; focus (intro w hSw; (try dsimp only at hSw); first | (go_simp; done) | (go_simp; with_reducible rfl))
  try simp only [Act.put]
  try simp only [List.setIfInBounds_toArray]
  try simp only [List.set_cons_succ, List.set_cons_zero]
  refine wpAnyH_take (i := 9) (oi := ⟨some 17, _, _, _, _, _⟩) (v := ?_) rfl (by kernel_rfl) (by kernel_rfl) (by kernel_rfl) (fun _ _ _ h => h) (Or.inl ⟨by rfl, ?_⟩) (by assumption) ?_; rotate_left; focus (intro w hSw; (try dsimp only at hSw); obtain ⟨h1, h2⟩ := hSw; have q0 := h2.cell 1; simp only [List.getElem?_toArray, List.getElem?_cons_zero, List.getElem?_cons_succ] at q0; first | (go_simp; done) | (go_simp; with_reducible rfl))
  try simp only [Act.put]
  try simp only [List.setIfInBounds_toArray]
  try simp only [List.set_cons_succ, List.set_cons_zero]
  refine wpAnyH_ready (rs := [0]) (by kernel_rfl) (by simp) ?_
  refine AllReadyH.cons (i := 0) (o := ⟨some 8, _, _, _, _, _⟩) rfl (fun K hK => ?_) ?_
  · go_simp
    refine (str_any v20 _).mono ?_
    rintro e ws ⟨rfl, hb⟩
    have HBn : Hid (Below W0.heap.size W0 ws) := Lib.hid (HB.out.trans (hb.mono HB.out.size))
    clear HB hb
    have HB := HBn
    clear HBn
    refine hK.out _ _ ?_ (fun hHeld => ?_)
    · exact HK.out _ HB.out
    try simp only [Act.put]
    try simp only [List.setIfInBounds_toArray]
    try simp only [List.set_cons_succ, List.set_cons_zero]
    refine wpAnyH_take (i := 1) (oi := ⟨some 9, _, _, _, _, _⟩) (v := ?_) rfl (by kernel_rfl) (by kernel_rfl) (by kernel_rfl) (fun _ _ _ h => h) (Or.inl ⟨by rfl, ?_⟩) (by assumption) ?_; rotate_left; focus (intro w hSw; (try dsimp only at hSw); first | (go_simp; done) | (go_simp; with_reducible rfl))
    try simp only [Act.put]
    try simp only [List.setIfInBounds_toArray]
    try simp only [List.set_cons_succ, List.set_cons_zero]
    refine wpAnyH_ready (rs := [6]) (by kernel_rfl) (by simp) ?_
    refine AllReadyH.cons (i := 6) (o := ⟨some 14, _, _, _, _, _⟩) rfl (fun K hK => ?_) ?_
    · go_simp
      refine (num_any n _).mono ?_
      rintro e wt ⟨rfl, hb⟩
      have HBn : Hid (Below W0.heap.size W0 wt) := Lib.hid (HB.out.trans (hb.mono HB.out.size))
      clear HB hb
      have HB := HBn
      clear HBn
      refine hK.out _ _ ?_ (fun hHeld => ?_)
      · exact HK.out _ HB.out
      try simp only [Act.put]
      try simp only [List.setIfInBounds_toArray]
      try simp only [List.set_cons_succ, List.set_cons_zero]
      refine wpAnyH_take (i := 7) (oi := ⟨some 15, _, _, _, _, _⟩) (v := ?_) rfl (by kernel_rfl) (by kernel_rfl) (by kernel_rfl) (fun _ _ _ h => h) (Or.inl ⟨by rfl, ?_⟩) (by assumption) ?_; rotate_left; focus (intro w hSw; (try dsimp only at hSw); first | (go_simp; done) | (go_simp; with_reducible rfl))
      try simp only [Act.put]
      try simp only [List.setIfInBounds_toArray]
      try simp only [List.set_cons_succ, List.set_cons_zero]
      refine wpAnyH_ready (rs := [10]) (by kernel_rfl) (by simp) ?_
      refine AllReadyH.cons (i := 10) (o := ⟨some 18, _, _, _, _, _⟩) rfl (fun K hK => ?_) ?_
      · go_simp
        refine (str_any s _).mono ?_
        rintro e wu ⟨rfl, hb⟩
        have HBn : Hid (Below W0.heap.size W0 wu) := Lib.hid (HB.out.trans (hb.mono HB.out.size))
        clear HB hb
        have HB := HBn
        clear HBn
        refine hK.out _ _ ?_ (fun hHeld => ?_)
        · exact HK.out _ HB.out
        try simp only [Act.put]
        try simp only [List.setIfInBounds_toArray]
        try simp only [List.set_cons_succ, List.set_cons_zero]
        refine wpAnyH_take (i := 11) (oi := ⟨some 19, _, _, _, _, _⟩) (v := ?_) rfl (by kernel_rfl) (by kernel_rfl) (by kernel_rfl) (fun _ _ _ h => h) (Or.inl ⟨by rfl, ?_⟩) (by assumption) ?_; rotate_left; focus (intro w hSw; (try dsimp only at hSw); first | (go_simp; done) | (go_simp; with_reducible rfl))
        try simp only [Act.put]
        try simp only [List.setIfInBounds_toArray]
        try simp only [List.set_cons_succ, List.set_cons_zero]
        refine wpAnyH_ready (rs := [12]) (by kernel_rfl) (by simp) ?_
        refine AllReadyH.cons (i := 12) (o := ⟨some 20, _, _, _, _, _⟩) rfl (fun K hK => ?_) ?_
        · obtain ⟨gv, hgv⟩ : ∃ gv, gv = wu.heap.size := ⟨_, rfl⟩
          obtain ⟨wv, hwv⟩ : ∃ wv, wv = wu.alloc (.cells ([(kCode, numD n), (kMessage, strD s)].flatMap ptC).toArray 74) := ⟨_, rfl⟩
          have hb : Below wu.heap.size wu wv := by rw [hwv]; exact below_a1 _ _
          have HPgv : Hid (PtsAt wv (fun g => g ≠ w.heap.size + 1) (some ⟨gv, 0, none⟩) [(kCode, numD n), (kMessage, strD s)]) := Lib.hid ⟨by rw [hwv, hgv]; exact row_blk (Blk.new rfl) (flat_length ptC 7 ptC_len _), fun p hp => by
            simp only [List.mem_cons, List.mem_nil_iff, or_false] at hp
            rcases hp with rfl | rfl
            · exact .leaf
            · exact .leaf⟩
          have HBn : Hid (Below W0.heap.size W0 wv) := Lib.hid (HB.out.trans (hb.mono HB.out.size))
          clear HB hb
          have HB := HBn
          clear HBn
          simp only [List.flatMap_cons, List.flatMap_nil] at hwv
          try simp only [ptC_str] at hwv
          try simp only [ptC_num] at hwv
          try simp only [ptC_of] at hwv
          simp only [List.cons_append, List.nil_append, List.append_nil, kCode, kMessage] at hwv
          go_simp
          rw [← hwv, ← hgv]
          clear hwv hgv
          refine hK.out _ _ ?_ (fun hHeld => ?_)
          · exact HK.out _ HB.out
          try simp only [Act.put]
          try simp only [List.setIfInBounds_toArray]
          try simp only [List.set_cons_succ, List.set_cons_zero]
          refine wpAnyH_ready (rs := [13]) (by kernel_rfl) (by simp) ?_
          refine AllReadyH.cons (i := 13) (o := ⟨some 21, _, _, _, _, _⟩) rfl (fun K hK => ?_) ?_
          · go_simp
            have hR := record_any (fun g => g ≠ w.heap.size + 1) (some ⟨gv, 0, none⟩) 2 [(kCode, numD n), (kMessage, strD s)] wv (HPP.out _ HB.out.size) HPgv.out (by simp)
            simp only [List.length_cons, List.length_nil, Nat.zero_add, Nat.reduceAdd] at hR
            refine hR.mono ?_
            clear hR
            rintro e wr ⟨d, rfl, hvd, hdd, hb⟩
            have HVd := Lib.hid hvd
            have HDd := Lib.hid hdd
            clear hvd hdd
            have HBn : Hid (Below W0.heap.size W0 wr) := Lib.hid (HB.out.trans (hb.mono HB.out.size))
            clear HB hb
            have HB := HBn
            clear HBn
            refine hK.out _ _ ?_ (fun hHeld => ?_)
            · exact HK.out _ HB.out
            try simp only [Act.put]
            try simp only [List.setIfInBounds_toArray]
            try simp only [List.set_cons_succ, List.set_cons_zero]
            refine wpAnyH_take (i := 14) (oi := ⟨some 22, _, _, _, _, _⟩) (v := ?_) rfl (by kernel_rfl) (by kernel_rfl) (by kernel_rfl) (fun _ _ _ h => h) (Or.inl ⟨by rfl, ?_⟩) (by assumption) ?_; rotate_left; focus (intro w hSw; (try dsimp only at hSw); first | (go_simp; done) | (go_simp; with_reducible rfl))
            try simp only [Act.put]
            try simp only [List.setIfInBounds_toArray]
            try simp only [List.set_cons_succ, List.set_cons_zero]
            refine wpAnyH_ready (rs := [15]) (by kernel_rfl) (by simp) ?_
            refine AllReadyH.cons (i := 15) (o := ⟨some 23, _, _, _, _, _⟩) rfl (fun K hK => ?_) ?_
            · obtain ⟨gx, hgx⟩ : ∃ gx, gx = wr.heap.size := ⟨_, rfl⟩
              obtain ⟨wx, hwx⟩ : ∃ wx, wx = wr.alloc (.cells ([(kJson, strD v20), (kId, i), (kError, d)].flatMap ptC).toArray 74) := ⟨_, rfl⟩
              have hb : Below wr.heap.size wr wx := by rw [hwx]; exact below_a1 _ _
              have HPgx : Hid (PtsAt wx (fun g => g ≠ w.heap.size + 1) (some ⟨gx, 0, none⟩) [(kJson, strD v20), (kId, i), (kError, d)]) := Lib.hid ⟨by rw [hwx, hgx]; exact row_blk (Blk.new rfl) (flat_length ptC 7 ptC_len _), fun p hp => by
                simp only [List.mem_cons, List.mem_nil_iff, or_false] at hp
                rcases hp with rfl | rfl | rfl
                · exact .leaf
                · exact (HVI.out.ext (HW.out.trans ((HB.out.trans (hb.mono HB.out.size)).mono HW.out.size)))
                · exact HDd.out.ext hb⟩
              have HBn : Hid (Below W0.heap.size W0 wx) := Lib.hid (HB.out.trans (hb.mono HB.out.size))
              clear HB hb
              have HB := HBn
              clear HBn
              simp only [List.flatMap_cons, List.flatMap_nil] at hwx
              try simp only [ptC_str] at hwx
              try simp only [ptC_num] at hwx
              try simp only [ptC_of] at hwx
              simp only [List.cons_append, List.nil_append, List.append_nil, kJson, kId, kError] at hwx
              go_simp
              rw [← hwx, ← hgx]
              clear hwx hgx
              refine hK.out _ _ ?_ (fun hHeld => ?_)
              · exact HK.out _ HB.out
              try simp only [Act.put]
              try simp only [List.setIfInBounds_toArray]
              try simp only [List.set_cons_succ, List.set_cons_zero]
              refine wpAnyH_ready (rs := [16]) (by kernel_rfl) (by simp) ?_
              refine AllReadyH.cons (i := 16) (o := ⟨some 24, _, _, _, _, _⟩) rfl (fun K hK => ?_) ?_
              · go_simp
                have hR := record_any (fun g => g ≠ w.heap.size + 1) (some ⟨gx, 0, none⟩) 3 [(kJson, strD v20), (kId, i), (kError, d)] wx (HPP.out _ HB.out.size) HPgx.out (by simp)
                simp only [List.length_cons, List.length_nil, Nat.zero_add, Nat.reduceAdd] at hR
                refine hR.mono ?_
                clear hR
                rintro e wy ⟨d2, rfl, hvd2, hdd2, hb⟩
                have HVd2 := Lib.hid hvd2
                have HDd2 := Lib.hid hdd2
                clear hvd2 hdd2
                have HBn : Hid (Below W0.heap.size W0 wy) := Lib.hid (HB.out.trans (hb.mono HB.out.size))
                clear HB hb
                have HB := HBn
                clear HBn
                refine hK.out _ _ ?_ (fun hHeld => ?_)
                · exact HK.out _ HB.out
                try simp only [Act.put]
                try simp only [List.setIfInBounds_toArray]
                try simp only [List.set_cons_succ, List.set_cons_zero]
                refine wpAnyH_ready (rs := [17]) (by kernel_rfl) (by simp) ?_
                refine AllReadyH.cons (i := 17) (o := ⟨none, _, _, _, _, _⟩) rfl (fun K hK => ?_) ?_
                · have HZr := Lib.hid (HZ.out.ext HB.out)
                  have f0 := HZr.out.free 0
                  have f1 := HZr.out.free 1
                  have f2 := HZr.out.free 2
                  have f3 := HZr.out.free 3
                  have f4 := HZr.out.free 4
                  have f5 := HZr.out.free 5
                  obtain ⟨z0, z1, z2, z3, z4, z5⟩ := HZr.out.sixT
                  go_simp
                  refine hK.out _ _ ?_ (fun hHeld => ?_)
                  · exact ⟨(put6_other (g := w.heap.size + 1) (o := 0) (by omega)).trans (HK.out _ HB.out).1, (put6_other (g := w.heap.size + 1) (o := 0) (by have := HGC.out; omega)).trans (HK.out _ HB.out).2⟩
                  try simp only [Act.put]
                  try simp only [List.setIfInBounds_toArray]
                  try simp only [List.set_cons_succ, List.set_cons_zero]
                  refine wpAnyH_done (by kernel_rfl) ?_ _
                  clear hHeld
                  go_wp2
                  refine fail_end (g := w.heap.size + 1) rfl (store6 HZr.out) ?_
                  refine (docS (P := fun _ => True) (o := 0) ?_ HDd2.out (fun g h => ⟨h, trivial⟩) (HW.out.trans (HB.out.mono HW.out.size)) (by omega)).doc
                  rw [HVd2.out, failW, ← HNS.out.1, ← HNS.out.2]
                  show recW [_, _, (kError, d.v)] = _
                  rw [HVd.out]
                  rfl
                exact AllReadyH.nil
              exact AllReadyH.nil
            exact AllReadyH.nil
          exact AllReadyH.nil
        exact AllReadyH.nil
      exact AllReadyH.nil
    exact AllReadyH.nil
  exact AllReadyH.nil
end Go.Proofs.YthnbeebilomchaaGreatDoor

namespace Go.Proofs.YthnbeebilomchaaGreatDoor
open Go Go.RowKit

/-- a part of a sort -/
def getS (v : V) (s : Int) (p : List Nm) : Option V := (getV v p).bind fun x => if x.sort = s then some x else none
theorem gText_S (v : V) (p : List Nm) : gText v p = (getS v 3 p).map V.text := by
  unfold gText getS
  cases getV v p with
  | none => rfl
  | some x => simp only [Option.bind_some]; split <;> rfl
theorem gNum_S (v : V) (p : List Nm) : gNum v p = (getS v 2 p).map V.n := by
  unfold gNum getS
  cases getV v p with
  | none => rfl
  | some x => simp only [Option.bind_some]; split <;> rfl
theorem gList_S (v : V) (p : List Nm) : gList v p = (getS v 4 p).map V.list := by
  unfold gList getS
  cases getV v p with
  | none => rfl
  | some x => simp only [Option.bind_some]; split <;> rfl
/-- what params are -/
def prC (d : VD) (m : Bool) : Array Value := #[.int .i64 d.sort, .bool d.on, .int .i64 d.n, .string ⟨d.text.toArray⟩, .slice d.a d.list.length d.c, .slice d.ka d.keys.length d.kc, .bool m]
def zeroD : VD := .mk 0 false 0 [] none 0 [] none 0 []
/-- what a part of a sort is answered with -/
def SorE (w : World) (pb : Nat) (d : VD) (m : Bool) (P : Nat → Prop) (r : Option V) (e : Ending) (w' : World) : Prop :=
  w.grownBy w' (some pb) ∧ Blk w' pb (prC d (m || r.isNone)) 96 ∧ ∃ x : VD, e = .returned (.agg #[.int .i64 x.sort, .bool x.on, .int .i64 x.n, .string ⟨x.text.toArray⟩, .slice x.a x.list.length x.c, .slice x.ka x.keys.length x.kc]) ∧ x.v = r.getD .null ∧ ValAt w' P x
theorem grown_of {w w' : World} {row : Option Nat} (h : Below w.heap.size w w') : w.grownBy w' row := ⟨h.os, h.tape, h.output, h.size, fun k hk _ => h.block k hk⟩
theorem grown_set {w w' : World} {g : Nat} (h : w.grownBy w' (some g)) (o : Nat) (u : Value) : w.grownBy (w'.setCell ⟨g, o, none⟩ u) (some g) :=
  ⟨h.os, h.tape, h.output, by simpa using h.size, fun k hk hne => (Below.heap_setCell w' _ u k (fun e => hne (by rw [e]))).trans (h.block k hk hne)⟩
theorem grown_put {w w' : World} {row : Option Nat} (h : w.grownBy w' row) {g : Nat} (hg : w.heap.size ≤ g) (o : Nat) (u : Value) : w.grownBy (w'.setCell ⟨g, o, none⟩ u) row :=
  ⟨h.os, h.tape, h.output, by simpa using h.size, fun k hk hne => (Below.heap_setCell w' _ u k (fun e => by have : k = g := e; omega)).trans (h.block k hk hne)⟩
theorem grown_put6 {w w' : World} {row : Option Nat} (h : w.grownBy w' row) {g o : Nat} (hg : w.heap.size ≤ g) (u0 u1 u2 u3 u4 u5 : Value) : w.grownBy (put6 w' g o u0 u1 u2 u3 u4 u5) row := by
  unfold put6
  exact grown_put (grown_put (grown_put (grown_put (grown_put (grown_put h hg _ _) hg _ _) hg _ _) hg _ _) hg _ _) hg _ _
theorem sorted_end {W : World} {tm : Array Value} {R : Ending → World → Prop} {g : Nat} {u0 u1 u2 u3 u4 u5 : Value} (h2 : tm.getD 6 undef = .pointer (some ⟨g, 0, none⟩)) (hB : Blk W g #[u0, u1, u2, u3, u4, u5] 36)
    (hR : R (.returned (.agg #[u0, u1, u2, u3, u4, u5])) W) : bodyPost Tryz.prog Tryz.f64 R .ret { tmps := tm, defers := [] } W := by
  have d0 := hB.cell 0
  have d1 := hB.cell 1
  have d2 := hB.cell 2
  have d3 := hB.cell 3
  have d4 := hB.cell 4
  have d5 := hB.cell 5
  simp only [List.getElem?_toArray, List.getElem?_cons_zero, List.getElem?_cons_succ] at d0 d1 d2 d3 d4 d5
  rw [Array.getD_eq_getD_getElem?] at h2
  refine bodyPost_ret (v := .agg #[u0, u1, u2, u3, u4, u5]) ?_ rfl hR
  simp [results, Tryz.results64, go_sem, h2, d0, d1, d2, d3, d4, d5]
theorem get_w (P : Nat → Prop) (d : VD) (pa : Option Addr) (pc : Nat) (p : List Nm) (w : World) (hv : ValAt w P d) (hp : Row w 1 pa p.length (p.map strV)) (hl : p.length ≤ 1048576) (hs : sizeV d.v ≤ 1048576) :
    Calls Tryz.prog 44 #[.agg #[.int .i64 d.sort, .bool d.on, .int .i64 d.n, .string ⟨d.text.toArray⟩, .slice d.a d.list.length d.c, .slice d.ka d.keys.length d.kc], .slice pa p.length pc] w
      (fun e w' => ∃ (x : VD) (b : Bool), e = .returned (.tuple #[.agg #[.int .i64 x.sort, .bool x.on, .int .i64 x.n, .string ⟨x.text.toArray⟩, .slice x.a x.list.length x.c, .slice x.ka x.keys.length x.kc], .bool b]) ∧ Hid (b = (getV d.v p).isSome) ∧ Hid (x.v = (getV d.v p).getD .null) ∧ ValAt w P x ∧ Below w.heap.size w w') := by
  have h := get_anyP P d pa pc p w hv hp hl hs
  rw [VD.val6] at h
  refine h.mono fun e w' he => ?_
  obtain ⟨hb, he⟩ := he
  cases hr : getV d.v p with
  | none => rw [hr] at he; exact ⟨zeroD, false, he, rfl, rfl, .leaf, hb⟩
  | some v => rw [hr] at he; obtain ⟨x, h1, h2, h3⟩ := he; exact ⟨x, true, by rw [h1, VD.val6], rfl, h2, h3, hb⟩
set_option maxHeartbeats 2000000 in
theorem sorted_any (P : Nat → Prop) (pb : Nat) (d : VD) (m : Bool) (s : Int) (pa : Option Addr) (pc : Nat) (p : List Nm) (w : World) (hP : ∀ g, P g → g ≠ pb) (hB : Blk w pb (prC d m) 96) (hv : ValAt w P d) (hp : Row w 1 pa p.length (p.map strV)) (hl : p.length ≤ 1048576) (hs : sizeV d.v ≤ 1048576) :
    Calls Tryz.prog 64 #[.pointer (some ⟨pb, 0, none⟩), .int .i64 s, .slice pa p.length pc] w (SorE w pb d m P (getS d.v s p)) := by
  obtain ⟨W0, hW0⟩ : ∃ W0, W0 = w.alloc (.cells #[.int .i64 0, .bool false, .int .i64 0, .string { data := #[] }, .slice none 0 0, .slice none 0 0] 36) := ⟨_, rfl⟩
  have hb0 : Below w.heap.size w W0 := by rw [hW0]; exact below_a1 _ _
  have HZ : Hid (Blk W0 w.heap.size #[.int .i64 0, .bool false, .int .i64 0, .string { data := #[] }, .slice none 0 0, .slice none 0 0] 36) := Lib.hid (by rw [hW0]; exact Blk.new rfl)
  have hPb := hB.ext hb0
  have H1 := Lib.hid (get_w (fun g => P g ∧ g < w.heap.size) d pa pc p W0 ((hv.mono fun g h1 h2 => ⟨h1, h2⟩).ext hb0) (hp.ext hb0) hl hs)
  have hg := hB.lt
  have HP := Lib.hid hPb
  have HB0 := Lib.hid hb0
  have HPP := Lib.hid hP
  have q0 := hPb.cell 0
  have q1 := hPb.cell 1
  have q2 := hPb.cell 2
  have q3 := hPb.cell 3
  have q4 := hPb.cell 4
  have q5 := hPb.cell 5
  unfold prC at q0 q1 q2 q3 q4 q5
  simp only [List.getElem?_toArray, List.getElem?_cons_zero, List.getElem?_cons_succ] at q0 q1 q2 q3 q4 q5
  clear hP hPb hB hb0 hv hp hs
  go_enter Tryz.func64, Tryz.ntmps64
  go_upto_region 1 with (fail)
  rw [← hW0]
  clear hW0
  go_wp2_with fail
  refine H1.out.mono ?_
  clear H1 q0 q1 q2 q3 q4 q5
  rintro e w1 ⟨x, b, rfl, hb, hx, hvx, hbl⟩
  have HP1 := Lib.hid (HP.out.ext hbl)
  have HZ1 := Lib.hid (HZ.out.ext hbl)
  have HB1 := Lib.hid (HB0.out.trans (hbl.mono HB0.out.size))
  have HX := Lib.hid (hvx.ext hbl)
  clear hbl HP HZ hvx
  have hz1 : w.heap.size < w1.heap.size := HZ1.out.lt
  have hz2 : pb ≠ w1.heap.size := by omega
  have HR : Hid (b = true → x.sort = s → getS d.v s p = some x.v) := Lib.hid fun h1 h2 => by
    have := hb.out
    have k := hx.out
    unfold getS
    cases hr : getV d.v p with
    | none => rw [hr, h1] at this; cases this
    | some y => rw [hr] at k; simp only [Option.getD_some] at k; subst k; rw [Option.bind_some, if_pos (by rw [vd_sort]; exact h2)]
  have HN : Hid (b = false ∨ x.sort ≠ s → getS d.v s p = none) := Lib.hid fun h1 => by
    have := hb.out
    have k := hx.out
    unfold getS
    cases hr : getV d.v p with
    | none => rfl
    | some y =>
      rw [hr] at k this
      simp only [Option.getD_some] at k
      subst k
      rw [Option.bind_some, if_neg (by rw [vd_sort]; rcases h1 with h1 | h1; (· rw [h1] at this; cases this); exact h1)]
  obtain ⟨W2, hW2⟩ : ∃ W2, W2 = w1.alloc (.cells #[.int .i64 x.sort, .bool x.on, .int .i64 x.n, .string ⟨x.text.toArray⟩, .slice x.a x.list.length x.c, .slice x.ka x.keys.length x.kc] 36) := ⟨_, rfl⟩
  have HX2 : Hid (Blk W2 w1.heap.size #[.int .i64 x.sort, .bool x.on, .int .i64 x.n, .string ⟨x.text.toArray⟩, .slice x.a x.list.length x.c, .slice x.ka x.keys.length x.kc] 36) := Lib.hid (by rw [hW2]; exact Blk.new rfl)
  have HP2 : Hid (Blk W2 pb (prC d m) 96) := Lib.hid (by rw [hW2]; exact HP1.out.alloc _)
  have HZ2 : Hid (Blk W2 w.heap.size #[.int .i64 0, .bool false, .int .i64 0, .string { data := #[] }, .slice none 0 0, .slice none 0 0] 36) := Lib.hid (by rw [hW2]; exact HZ1.out.alloc _)
  have HB2 : Hid (Below w.heap.size w W2) := Lib.hid (by rw [hW2]; exact HB1.out.alloc HB1.out.size _)
  have HXV : Hid (ValAt W2 (fun g => P g ∧ g < w.heap.size) x) := Lib.hid (by rw [hW2]; exact HX.out.ext (below_a1 _ _))
  go_upto_region 2 with (fail)
  rw [← hW2]
  obtain ⟨gx, hgx⟩ : ∃ gx, gx = w1.heap.size := ⟨_, rfl⟩
  rw [← hgx] at HX2 hz1 hz2 ⊢
  clear hW2 HP1 HZ1 HB1 hgx hb hx
  obtain ⟨c0, c1, c2, c3, c4, c5⟩ := HX2.out.sixT
  have m6 := HP2.out.cell 6
  have n6 := HP2.out.free 6
  have f0 := HZ2.out.free 0
  have f1 := HZ2.out.free 1
  have f2 := HZ2.out.free 2
  have f3 := HZ2.out.free 3
  have f4 := HZ2.out.free 4
  have f5 := HZ2.out.free 5
  obtain ⟨z0, z1, z2, z3, z4, z5⟩ := HZ2.out.sixT
  unfold prC at m6
  simp only [List.getElem?_toArray, List.getElem?_cons_zero, List.getElem?_cons_succ] at m6
  by_cases hok : b = true ∧ x.sort = s
  · obtain ⟨hbt, hxs⟩ := hok
    have HR2 := Lib.hid (HR.out hbt hxs)
    clear HR HN
    subst hbt
    have e1 : (x.sort == s) = true := by simpa using hxs
    have e2 : (x.sort != s) = false := by simpa using hxs
    clear hxs
    go_wp2
    refine sorted_end (g := w.heap.size) rfl (store6 HZ2.out) ⟨grown_put6 (o := 0) (grown_of HB2.out) (Nat.le_refl _) _ _ _ _ _ _, ?_, x, rfl, by rw [HR2.out]; rfl, (HXV.out.congr fun g h _ => put6_other (o := 0) (by have := h.2; omega)).mono fun g h _ => h.1⟩
    rw [HR2.out]
    exact (put6_other (o := 0) (by omega)).trans (by rw [Option.isNone_some, Bool.or_false]; exact HP2.out)
  · have hpz : pb ≠ w.heap.size := by omega
    have HE : Hid (SorE w pb d m P none (.returned (.agg #[.int .i64 0, .bool false, .int .i64 0, .string { data := #[] }, .slice none 0 0, .slice none 0 0])) (put6 (W2.setCell ⟨pb, 6, none⟩ (.bool true)) w.heap.size 0 (.int .i64 0) (.bool false) (.int .i64 0) (.string { data := #[] }) (.slice none 0 0) (.slice none 0 0))) := Lib.hid (by
      refine ⟨grown_put6 (grown_set (grown_of HB2.out) _ _) (Nat.le_refl _) _ _ _ _ _ _, ?_, zeroD, rfl, rfl, .leaf⟩
      rw [Option.isNone_none, Bool.or_true]
      exact (put6_other hpz).trans (HP2.out.set 6 (.bool true)))
    have HZ3 : Hid (Blk (W2.setCell ⟨pb, 6, none⟩ (.bool true)) w.heap.size #[.int .i64 0, .bool false, .int .i64 0, .string { data := #[] }, .slice none 0 0, .slice none 0 0] 36) := Lib.hid (HZ2.out.other (p := ⟨pb, 6, none⟩) (Ne.symm hpz) _)
    cases b with
    | false =>
      have HN2 := Lib.hid (HN.out (.inl rfl))
      clear hok HR HN
      go_wp2
      rw [HN2.out]
      exact sorted_end (g := w.heap.size) rfl (store6 HZ3.out) HE.out
    | true =>
      have e1 : (x.sort == s) = false := by simpa using hok
      have e2 : (x.sort != s) = true := by simpa using hok
      have HN2 := Lib.hid (HN.out (.inr (by simpa using hok)))
      clear hok HR HN
      go_wp2
      rw [HN2.out]
      exact sorted_end (g := w.heap.size) rfl (store6 HZ3.out) HE.out

/-- what a text, a number is answered with -/
def ScaE (w : World) (pb : Nat) (d : VD) (m : Bool) (y : Value) (b : Bool) (e : Ending) (w' : World) : Prop :=
  e = .returned y ∧ Blk w' pb (prC d (m || b)) 96 ∧ w.grownBy w' (some pb)
set_option maxHeartbeats 1000000 in
theorem ptext_any (pb : Nat) (d : VD) (m : Bool) (pa : Option Addr) (pc : Nat) (p : List Nm) (w : World) (hB : Blk w pb (prC d m) 96) (hv : ValAt w (fun g => g ≠ pb) d) (hp : Row w 1 pa p.length (p.map strV)) (hl : p.length ≤ 1048576) (hs : sizeV d.v ≤ 1048576) :
    Calls Tryz.prog 43 #[.pointer (some ⟨pb, 0, none⟩), .slice pa p.length pc] w (ScaE w pb d m (.string ⟨((gText d.v p).getD []).toArray⟩) (gText d.v p).isNone) := by
  have H1 := Lib.hid (sorted_any (fun g => g ≠ pb) pb d m 3 pa pc p w (fun _ h => h) hB hv hp hl hs)
  have HQ : Hid (∀ x : VD, x.v = (getS d.v 3 p).getD .null → (.string ⟨((gText d.v p).getD []).toArray⟩ : Value) = .string ⟨x.text.toArray⟩) := Lib.hid fun x hx => by
    rw [gText_S]
    cases hr : getS d.v 3 p with
    | none => rw [hr] at hx; rw [← vd_text, hx]; rfl
    | some y => rw [hr] at hx; rw [← vd_text, hx]; rfl
  have HN : Hid ((getS d.v 3 p).isNone = (gText d.v p).isNone) := Lib.hid (by rw [gText_S]; cases getS d.v 3 p <;> rfl)
  clear hB hv hp hs
  go_enter Tryz.func43, Tryz.ntmps43
  go_wp2_with fail
  refine H1.out.mono ?_
  clear H1
  rintro e w1 ⟨hg, hbk, x, rfl, hx, -⟩
  have HE : Hid (ScaE w pb d m (.string ⟨((gText d.v p).getD []).toArray⟩) (gText d.v p).isNone (.returned (.string ⟨x.text.toArray⟩)) w1) := Lib.hid ⟨by rw [HQ.out x hx], by rw [← HN.out]; exact hbk, hg⟩
  have hf : ∀ w : World, Sem.run Tryz.prog (Instr.field 36 (.agg #[.int .i64 x.sort, .bool x.on, .int .i64 x.n, .string ⟨x.text.toArray⟩, .slice x.a x.list.length x.c, .slice x.ka x.keys.length x.kc]) 3) w = .ok (.string ⟨x.text.toArray⟩) w := fun _ => by kernel_rfl
  have hf := hf w1
  clear hg hbk hx HQ HN
  go_wp2
  go_ret
  exact HE.out
set_option maxHeartbeats 1000000 in
theorem pnumber_any (pb : Nat) (d : VD) (m : Bool) (pa : Option Addr) (pc : Nat) (p : List Nm) (w : World) (hB : Blk w pb (prC d m) 96) (hv : ValAt w (fun g => g ≠ pb) d) (hp : Row w 1 pa p.length (p.map strV)) (hl : p.length ≤ 1048576) (hs : sizeV d.v ≤ 1048576) :
    Calls Tryz.prog 65 #[.pointer (some ⟨pb, 0, none⟩), .slice pa p.length pc] w (ScaE w pb d m (.int .i64 ((gNum d.v p).getD 0)) (gNum d.v p).isNone) := by
  have H1 := Lib.hid (sorted_any (fun g => g ≠ pb) pb d m 2 pa pc p w (fun _ h => h) hB hv hp hl hs)
  have HQ : Hid (∀ x : VD, x.v = (getS d.v 2 p).getD .null → (.int .i64 ((gNum d.v p).getD 0) : Value) = .int .i64 x.n) := Lib.hid fun x hx => by
    rw [gNum_S]
    cases hr : getS d.v 2 p with
    | none => rw [hr] at hx; rw [← vd_n, hx]; rfl
    | some y => rw [hr] at hx; rw [← vd_n, hx]; rfl
  have HN : Hid ((getS d.v 2 p).isNone = (gNum d.v p).isNone) := Lib.hid (by rw [gNum_S]; cases getS d.v 2 p <;> rfl)
  clear hB hv hp hs
  go_enter Tryz.func65, Tryz.ntmps65
  go_wp2_with fail
  refine H1.out.mono ?_
  clear H1
  rintro e w1 ⟨hg, hbk, x, rfl, hx, -⟩
  have HE : Hid (ScaE w pb d m (.int .i64 ((gNum d.v p).getD 0)) (gNum d.v p).isNone (.returned (.int .i64 x.n)) w1) := Lib.hid ⟨by rw [HQ.out x hx], by rw [← HN.out]; exact hbk, hg⟩
  have hf : ∀ w : World, Sem.run Tryz.prog (Instr.field 36 (.agg #[.int .i64 x.sort, .bool x.on, .int .i64 x.n, .string ⟨x.text.toArray⟩, .slice x.a x.list.length x.c, .slice x.ka x.keys.length x.kc]) 2) w = .ok (.int .i64 x.n) w := fun _ => by kernel_rfl
  have hf := hf w1
  clear hg hbk hx HQ HN
  go_wp2
  go_ret
  exact HE.out
end Go.Proofs.YthnbeebilomchaaGreatDoor

namespace Go.Proofs.YthnbeebilomchaaGreatDoor
open Go Go.RowKit

def CloE (w : World) (n : Nat) (L : List Value) (e : Ending) (w' : World) : Prop := ∃ a c, e = .returned (.slice a n c) ∧ Own w' w.heap.size 9 1 a n c L ∧ Below w.heap.size w w'
set_option maxHeartbeats 1000000 in
set_option maxRecDepth 20000 in
theorem clone_any (pa : Option Addr) (pc : Nat) (n : Nat) (L : List Value) (w : World) (hp : Row w 1 pa n L) (hl : n ≤ 1048576) (h1 : ∀ u ∈ L, u.oneCell' = true) :
    Calls Tryz.prog 83 #[.slice pa n pc] w (CloE w n L) := by
  have HL := Lib.hid hl
  clear hl
  cases pa with
  | none =>
    have hn : n = 0 := by
      rcases Nat.eq_zero_or_pos n with h | h
      · exact h
      · obtain ⟨_, _, h, _⟩ := hp.2 (by omega); cases h
    subst hn
    have hL : L = [] := List.eq_nil_of_length_eq_zero hp.1
    subst hL
    have HE : Hid (CloE w 0 [] (.returned (.slice none 0 0)) w) := Lib.hid ⟨none, 0, rfl, Own.nil _ _ _ _, Below.refl _ _⟩
    have hq := Lib.run_eql_slice_nil (P := Tryz.prog) w 24 9 none 0 pc 0 0 Tryz.underlying24
    clear hp h1
    go_enter Tryz.func83, Tryz.ntmps83
    go_wp2
    go_ret
    exact HE.out
  | some ad =>
    have HR : Hid (Row (w.alloc (.cells #[] 9)) 1 (some ad) n L) := Lib.hid (hp.ext (below_a1 _ _))
    have HO : Hid (Own (w.alloc (.cells #[] 9)) w.heap.size 9 1 (some ⟨w.heap.size, 0, none⟩) 0 0 []) := Lib.hid ⟨by simp, .inl ⟨rfl, rfl, fun g h => by simp [blockOf] at h; omega⟩⟩
    have H1 := Lib.hid h1
    have hq := Lib.run_eql_slice_nil (P := Tryz.prog) w 24 9 (some ad) n pc 0 0 Tryz.underlying24
    clear hp h1
    go_enter Tryz.func83, Tryz.ntmps83
    go_wp2_with (at_builtin; refine wpList_append_Own rfl _ _ 24 rfl w.heap.size 9 _ 1 16 Tryz.underlying24 Tryz.infoStr rfl (by decide) _ 0 0 _ rfl HO.out (some ad) n pc L rfl HR.out H1.out (by have := HL.out; unfold maxLen; omega) (by have := HL.out; omega) (by simp) ?_; intro a5 c5 w5 ho5 hg5 hb5)
    rw [Nat.zero_add, List.nil_append] at ho5
    have HE : Hid (CloE w n L (.returned (.slice a5 n c5)) w5) := Lib.hid ⟨a5, c5, rfl, ho5, (below_a1 w _).grown hg5 (by simp) (HO.out.rowBase (Nat.le_refl _))⟩
    clear ho5 hg5 hb5
    go_ret
    exact HE.out
end Go.Proofs.YthnbeebilomchaaGreatDoor

namespace Go.Proofs.YthnbeebilomchaaGreatDoor
open Go Go.RowKit

theorem val_grown {w W : World} {pb : Nat} {d : VD} (h : ValAt w (fun g => g ≠ pb) d) (hg : w.grownBy W (some pb)) : ValAt W (fun g => g ≠ pb) d :=
  ((h.mono (q := fun g => g ≠ pb ∧ g < w.heap.size) fun g h1 h2 => ⟨h1, h2⟩).congr fun g h1 _ => hg.block g h1.2 (fun e => h1.1 (by cases e; rfl))).mono fun g h1 _ => h1.1
theorem row_grown {w W : World} {pb sz n : Nat} {a : Option Addr} {xs : List Value} (h : Row w sz a n xs) (hp : 0 < n → blockOf a ≠ some pb) (hg : w.grownBy W (some pb)) : Row W sz a n xs :=
  h.congr fun g h0 h1 h2 => hg.block g h2 (fun e => hp (Nat.pos_of_mul_pos_right h0) (by rw [h1]; exact e))
theorem grown_trans {a b c : World} {row : Option Nat} (h : a.grownBy b row) (k : b.grownBy c row) : a.grownBy c row :=
  ⟨k.os.trans h.os, k.tape.trans h.tape, k.output.trans h.output, Nat.le_trans h.size k.size, fun i hi hne => (k.block i (Nat.lt_of_lt_of_le hi h.size) hne).trans (h.block i hi hne)⟩
theorem pnumber_n (pb : Nat) (d : VD) (m : Bool) (pa : Option Addr) (pc : Nat) (p : List Nm) (n : Nat) (w : World) (hn : n = p.length) (hB : Blk w pb (prC d m) 96) (hv : ValAt w (fun g => g ≠ pb) d) (hp : Row w 1 pa n (p.map strV)) (hl : n ≤ 1048576) (hs : sizeV d.v ≤ 1048576) :
    Calls Tryz.prog 65 #[.pointer (some ⟨pb, 0, none⟩), .slice pa n pc] w (ScaE w pb d m (.int .i64 ((gNum d.v p).getD 0)) (gNum d.v p).isNone) := by
  subst hn; exact pnumber_any pb d m pa pc p w hB hv hp hl hs
theorem place_end {W : World} {tm : Array Value} {R : Ending → World → Prop} {g : Nat} {u0 u1 : Value} (h2 : tm.getD 4 undef = .pointer (some ⟨g, 0, none⟩)) (hB : Blk W g #[u0, u1] 29)
    (hR : R (.returned (.agg #[u0, u1])) W) : bodyPost Tryz.prog Tryz.f67 R .ret { tmps := tm, defers := [] } W := by
  have d0 := hB.cell 0
  have d1 := hB.cell 1
  simp only [List.getElem?_toArray, List.getElem?_cons_zero, List.getElem?_cons_succ] at d0 d1
  rw [Array.getD_eq_getD_getElem?] at h2
  refine bodyPost_ret (v := .agg #[u0, u1]) ?_ rfl hR
  simp [results, Tryz.results67, go_sem, h2, d0, d1]
/-- what stands between two steps: the params, the answer's box, all else -/
structure PlS (w : World) (pb gr : Nat) (d : VD) (m : Bool) (W : World) : Prop where
  pblk : Blk W pb (prC d m) 96
  rblk : Blk W gr #[.int .i64 0, .int .i64 0] 29
  grown : w.grownBy W (some pb)
  pbl : pb < w.heap.size
  base : w.heap.size ≤ gr
theorem PlS.ext {w : World} {pb gr : Nat} {d : VD} {m : Bool} {W W' : World} (h : PlS w pb gr d m W) (hb : Below W.heap.size W W') : PlS w pb gr d m W' := ⟨h.pblk.ext hb, h.rblk.ext hb, grown_trans h.grown (grown_of hb), h.pbl, h.base⟩
theorem PlS.app {w : World} {pb gr : Nat} {d : VD} {m : Bool} {W W' : World} (h : PlS w pb gr d m W) {T : TypeId} {a : Option Addr} {n c : Nat} {xs : List Value} (ho : Own W (gr + 1) T 1 a n c xs) (hg : W.grownBy W' (rowOf a c)) : PlS w pb gr d m W' := by
  have h1 := h.pbl
  have h2 := h.base
  have hr : ∀ k, k ≤ gr → some k ≠ rowOf a c := fun k hk e => by have := ho.rowBase (Nat.le_refl _) k e.symm; omega
  have h3 := h.grown.size
  exact ⟨h.pblk.grown hg (hr _ (by omega)), h.rblk.grown hg (hr _ (Nat.le_refl _)), ⟨hg.os.trans h.grown.os, hg.tape.trans h.grown.tape, hg.output.trans h.grown.output, Nat.le_trans h3 hg.size, fun k hk hne => (hg.block k (by omega) (hr k (by omega))).trans (h.grown.block k hk hne)⟩, h1, h2⟩
theorem PlS.call {w : World} {pb gr : Nat} {d : VD} {m m' : Bool} {W W' : World} (h : PlS w pb gr d m W) (hb : Blk W' pb (prC d m') 96) (hg : W.grownBy W' (some pb)) : PlS w pb gr d m' W' := by
  have h1 := h.pbl
  have h2 := h.base
  exact ⟨hb, h.rblk.grown hg (by simp; omega), ⟨hg.os.trans h.grown.os, hg.tape.trans h.grown.tape, hg.output.trans h.grown.output, Nat.le_trans h.grown.size hg.size, fun k hk hne => (hg.block k (by have := h.grown.size; omega) hne).trans (h.grown.block k hk hne)⟩, h1, h2⟩
set_option maxHeartbeats 4000000 in
set_option maxRecDepth 20000 in
theorem place_any (pb : Nat) (d : VD) (m : Bool) (pa : Option Addr) (pc : Nat) (p : List Nm) (w : World) (hB : Blk w pb (prC d m) 96) (hv : ValAt w (fun g => g ≠ pb) d) (hp : Row w 1 pa p.length (p.map strV)) (hpp : 0 < p.length → blockOf pa ≠ some pb) (hl : p.length ≤ 1000) (hs : sizeV d.v ≤ 1048576) :
    Calls Tryz.prog 67 #[.pointer (some ⟨pb, 0, none⟩), .slice pa p.length pc] w (ScaE w pb d m (.agg #[.int .i64 ((gNum d.v (p ++ [kLine])).getD 0), .int .i64 ((gNum d.v (p ++ [kChar])).getD 0)]) ((gNum d.v (p ++ [kLine])).isNone || (gNum d.v (p ++ [kChar])).isNone)) := by
  obtain ⟨W0, hW0⟩ : ∃ W0, W0 = w.alloc (.cells #[.int .i64 0, .int .i64 0] 29) := ⟨_, rfl⟩
  have hb0 : Below w.heap.size w W0 := by rw [hW0]; exact below_a1 w _
  have HS0 : Hid (PlS w pb w.heap.size d m W0) := Lib.hid ⟨hB.ext hb0, by rw [hW0]; exact Blk.new rfl, grown_of hb0, hB.lt, Nat.le_refl _⟩
  have HV := Lib.hid hv
  have HR := Lib.hid hp
  have HPP := Lib.hid hpp
  have HLL := Lib.hid hl
  have HSZ := Lib.hid hs
  obtain ⟨n1, hn1⟩ : ∃ x, x = gNum d.v (p ++ [kLine]) := ⟨_, rfl⟩
  obtain ⟨n2, hn2⟩ : ∃ x, x = gNum d.v (p ++ [kChar]) := ⟨_, rfl⟩
  rw [← hn1, ← hn2]
  have HN1 := Lib.hid hn1
  have HN2 := Lib.hid hn2
  have HL1 : Hid (∀ u ∈ p.map strV, u.oneCell' = true) := Lib.hid fun u hu => by obtain ⟨x, -, rfl⟩ := List.mem_map.1 hu; rfl
  have hz0 := HS0.out.rblk.lt
  obtain ⟨n, hn⟩ : ∃ n, n = p.length := ⟨_, rfl⟩
  rw [← hn] at HR HPP HLL ⊢
  have HN := Lib.hid hn
  clear hB hv hp hpp hl hs hb0 hn1 hn2 hn
  go_enter Tryz.func67, Tryz.ntmps67
  go_upto_region 1 with (fail)
  rw [← hW0]
  clear hW0
  go_wp2_with fail
  refine (clone_any pa pc n (p.map strV) W0 (row_grown HR.out HPP.out HS0.out.grown) (by have := HLL.out; omega) HL1.out).mono ?_
  rintro e w2 ⟨a2, c2, rfl, ho2, hb2⟩
  have HO2 : Hid (Own w2 (w.heap.size + 1) 9 1 a2 n c2 (p.map strV)) := Lib.hid (ho2.mono hz0)
  have HS2 := Lib.hid (HS0.out.ext hb2)
  have hz2 : w.heap.size + 1 ≤ w2.heap.size := Nat.le_trans hz0 hb2.size
  clear ho2 hb2 HS0 hz0
  go_wp2_with (at_builtin; refine wpList_append_Own rfl _ _ 24 rfl (w.heap.size + 1) 9 _ 1 16 Tryz.underlying24 Tryz.infoStr rfl (by decide) a2 n c2 _ rfl (HO2.out.alloc _) _ 1 1 [strV kLine] rfl (Row.new1 (by simp) rfl rfl) (by intro u hu; simp at hu; subst hu; rfl) (by have := HLL.out; unfold maxLen; omega) (by have := HLL.out; omega) (by simp; omega) ?_; intro a5 c5 w5 ho5 hg5 hb5)
  have HS5 := Lib.hid ((HS2.out.ext (below_a1 _ _)).app (HO2.out.alloc _) hg5)
  have HO5 := Lib.hid ho5
  have hz5 : w.heap.size + 1 ≤ w5.heap.size := HS5.out.rblk.lt
  clear ho5 hg5 hb5 HS2 HO2 hz2
  refine (pnumber_n pb d m a5 c5 (p ++ [kLine]) (n + 1) w5 (by rw [HN.out]; simp) HS5.out.pblk (val_grown HV.out HS5.out.grown) (by rw [List.map_append]; exact HO5.out.row) (by have := HLL.out; omega) HSZ.out).mono ?_
  rw [← HN1.out]
  rintro e w6 ⟨rfl, hb6, hg6⟩
  have HS6 := Lib.hid (HS5.out.call hb6 hg6)
  clear hb6 hg6 HS5 HO5 hz5
  go_wp2_with fail
  refine (clone_any pa pc n (p.map strV) w6 (row_grown HR.out HPP.out HS6.out.grown) (by have := HLL.out; omega) HL1.out).mono ?_
  rintro e w7 ⟨a7, c7, rfl, ho7, hb7⟩
  have HO7 : Hid (Own w7 (w.heap.size + 1) 9 1 a7 n c7 (p.map strV)) := Lib.hid (ho7.mono HS6.out.rblk.lt)
  have HS7 := Lib.hid (HS6.out.ext hb7)
  have hz7 : w.heap.size + 1 ≤ w7.heap.size := HS7.out.rblk.lt
  clear ho7 hb7 HS6
  go_wp2_with (at_builtin; refine wpList_append_Own rfl _ _ 24 rfl (w.heap.size + 1) 9 _ 1 16 Tryz.underlying24 Tryz.infoStr rfl (by decide) a7 n c7 _ rfl (HO7.out.alloc _) _ 1 1 [strV kChar] rfl (Row.new1 (by simp) rfl rfl) (by intro u hu; simp at hu; subst hu; rfl) (by have := HLL.out; unfold maxLen; omega) (by have := HLL.out; omega) (by simp; omega) ?_; intro a5 c5 w8 ho5 hg5 hb5)
  have HS8 := Lib.hid ((HS7.out.ext (below_a1 _ _)).app (HO7.out.alloc _) hg5)
  have HO8 := Lib.hid ho5
  clear ho5 hg5 hb5 HS7 HO7 hz7
  refine (pnumber_n pb d (m || n1.isNone) _ _ (p ++ [kChar]) (n + 1) w8 (by rw [HN.out]; simp) HS8.out.pblk (val_grown HV.out HS8.out.grown) (by rw [List.map_append]; exact HO8.out.row) (by have := HLL.out; omega) HSZ.out).mono ?_
  rw [← HN2.out]
  rintro e w9 ⟨rfl, hb9, hg9⟩
  have HS9 := Lib.hid (HS8.out.call hb9 hg9)
  clear hb9 hg9 HS8 HO8
  have f0 := HS9.out.rblk.free 0
  have f1 := HS9.out.rblk.free 1
  have z0 := HS9.out.rblk.cell 0
  have z1 := HS9.out.rblk.cell 1
  simp only [List.getElem?_toArray, List.getElem?_cons_zero, List.getElem?_cons_succ] at z0 z1
  go_wp2
  refine place_end (g := w.heap.size) rfl ((HS9.out.rblk.set 0 (.int .i64 (n1.getD 0))).set 1 (.int .i64 (n2.getD 0))) ⟨rfl, ?_, grown_put (grown_put HS9.out.grown (Nat.le_refl _) _ _) (Nat.le_refl _) _ _⟩
  have hne : pb ≠ w.heap.size := Nat.ne_of_lt HS9.out.pbl
  rw [← Bool.or_assoc]
  exact (HS9.out.pblk.other (p := ⟨w.heap.size, 0, none⟩) hne _).other (p := ⟨w.heap.size, 1, none⟩) hne _
end Go.Proofs.YthnbeebilomchaaGreatDoor

namespace Go.Proofs.YthnbeebilomchaaGreatDoor
open Go Go.RowKit

/-- what a change is read to, whatever is missing -/
def chG (v : V) : E :=
  match getV v [kRange] with
  | none => ⟨0, 0, 0, 0, (gText v [kText]).getD [], true⟩
  | some _ => ⟨(gNum v [kRange, kStart, kLine]).getD 0, (gNum v [kRange, kStart, kChar]).getD 0, (gNum v [kRange, kEnd, kLine]).getD 0, (gNum v [kRange, kEnd, kChar]).getD 0, (gText v [kText]).getD [], false⟩
theorem chL_chG {v : V} {e : E} (h : chL v = some e) : chG v = e := by
  unfold chL gPlace at h
  unfold chG
  cases ht : gText v [kText] with
  | none => rw [ht] at h; cases h
  | some t =>
    rw [ht, Option.bind_some] at h
    cases hr : getV v [kRange] with
    | none => rw [hr] at h; simp only [Option.some.injEq] at h; rw [← h]; rfl
    | some r =>
      rw [hr] at h
      simp only [List.cons_append, List.nil_append] at h
      cases h1 : gNum v [kRange, kStart, kLine] with
      | none => rw [h1] at h; cases h
      | some a =>
        cases h2 : gNum v [kRange, kStart, kChar] with
        | none => rw [h1, h2] at h; cases h
        | some b =>
          cases h3 : gNum v [kRange, kEnd, kLine] with
          | none => rw [h1, h2, h3] at h; cases h
          | some c =>
            cases h4 : gNum v [kRange, kEnd, kChar] with
            | none => rw [h1, h2, h3, h4] at h; cases h
            | some d => rw [h1, h2, h3, h4] at h; simp at h; rw [← h]; rfl
theorem chL_none (v : V) : (chL v).isNone = ((gText v [kText]).isNone || (getV v [kRange]).isSome && (((gNum v [kRange, kStart, kLine]).isNone || (gNum v [kRange, kStart, kChar]).isNone) || ((gNum v [kRange, kEnd, kLine]).isNone || (gNum v [kRange, kEnd, kChar]).isNone))) := by
  unfold chL gPlace
  cases gText v [kText] with
  | none => rfl
  | some t =>
    rw [Option.bind_some]
    cases getV v [kRange] with
    | none => rfl
    | some r =>
      simp only [List.cons_append, List.nil_append]
      cases gNum v [kRange, kStart, kLine] <;> cases gNum v [kRange, kStart, kChar] <;> cases gNum v [kRange, kEnd, kLine] <;> cases gNum v [kRange, kEnd, kChar] <;> rfl
def edC (e : E) : Array Value := #[.int .i64 e.fl, .int .i64 e.fu, .int .i64 e.tl, .int .i64 e.tu, .string ⟨e.text.toArray⟩, .bool e.whole]
/-- what stands between two steps -/
structure ChS (w : World) (pb : Nat) (d : VD) (m : Bool) (v : VD) (m2 : Bool) (e : E) (W : World) : Prop where
  below : Below w.heap.size w W
  pblk : Blk W pb (prC d m) 96
  vblk : Blk W w.heap.size #[.int .i64 v.sort, .bool v.on, .int .i64 v.n, .string ⟨v.text.toArray⟩, .slice v.a v.list.length v.c, .slice v.ka v.keys.length v.kc] 36
  rblk : Blk W (w.heap.size + 1) (edC ⟨0, 0, 0, 0, [], false⟩) 82
  xblk : Blk W (w.heap.size + 2) (prC v m2) 96
  eblk : Blk W (w.heap.size + 3) (edC e) 82
  val : ValAt W (fun g => g < w.heap.size) v
  pbl : pb < w.heap.size
theorem ChS.ext {w : World} {pb : Nat} {d : VD} {m : Bool} {v : VD} {m2 : Bool} {e : E} {W W' : World} (h : ChS w pb d m v m2 e W) (hb : Below W.heap.size W W') : ChS w pb d m v m2 e W' :=
  ⟨h.below.trans (hb.mono h.below.size), h.pblk.ext hb, h.vblk.ext hb, h.rblk.ext hb, h.xblk.ext hb, h.eblk.ext hb, h.val.ext hb, h.pbl⟩
theorem ChS.call {w : World} {pb : Nat} {d : VD} {m : Bool} {v : VD} {m2 m3 : Bool} {e : E} {W W' : World} (h : ChS w pb d m v m2 e W) (hb : Blk W' (w.heap.size + 2) (prC v m3) 96) (hg : W.grownBy W' (some (w.heap.size + 2))) : ChS w pb d m v m3 e W' := by
  have h1 := h.pbl
  exact ⟨⟨hg.os.trans h.below.os, hg.tape.trans h.below.tape, hg.output.trans h.below.output, Nat.le_trans h.below.size hg.size, fun k hk => (hg.block k (by have := h.below.size; omega) (by simp; omega)).trans (h.below.block k hk)⟩,
    h.pblk.grown hg (by simp; omega), h.vblk.grown hg (by simp), h.rblk.grown hg (by simp), hb, h.eblk.grown hg (by simp), h.val.congr fun g h1 h2 => hg.block g h2 (by simp; omega), h.pbl⟩
theorem ChS.put {w : World} {pb : Nat} {d : VD} {m : Bool} {v : VD} {m2 : Bool} {e e' : E} {W : World} (h : ChS w pb d m v m2 e W) (o : Nat) (u : Value) (he : (edC e).setIfInBounds o u = edC e') : ChS w pb d m v m2 e' (W.setCell ⟨w.heap.size + 3, o, none⟩ u) := by
  have h1 := h.pbl
  have q0 : pb ≠ w.heap.size + 3 := by omega
  have q1 : w.heap.size ≠ w.heap.size + 3 := by omega
  have q2 : w.heap.size + 1 ≠ w.heap.size + 3 := by omega
  have q3 : w.heap.size + 2 ≠ w.heap.size + 3 := by omega
  have q4 : w.heap.size ≤ w.heap.size + 3 := by omega
  exact ⟨h.below.setCell (p := ⟨w.heap.size + 3, o, none⟩) q4 _, h.pblk.other (p := ⟨w.heap.size + 3, o, none⟩) q0 _, h.vblk.other (p := ⟨w.heap.size + 3, o, none⟩) q1 _, h.rblk.other (p := ⟨w.heap.size + 3, o, none⟩) q2 _,
    h.xblk.other (p := ⟨w.heap.size + 3, o, none⟩) q3 _, by rw [← he]; exact h.eblk.set o u, h.val.congr fun g h1 _ => Below.heap_setCell W _ u g (fun e => by have : g = w.heap.size + 3 := e; omega), h.pbl⟩
theorem ChS.vx {w : World} {pb : Nat} {d : VD} {m : Bool} {v : VD} {m2 : Bool} {e : E} {W : World} (h : ChS w pb d m v m2 e W) : ValAt W (fun g => g ≠ w.heap.size + 2) v := h.val.mono fun g h1 _ => by omega
theorem change_end {W : World} {tm : Array Value} {R : Ending → World → Prop} {g : Nat} {u0 u1 u2 u3 u4 u5 : Value} (h2 : tm.getD 4 undef = .pointer (some ⟨g, 0, none⟩)) (hB : Blk W g #[u0, u1, u2, u3, u4, u5] 82)
    (hR : R (.returned (.agg #[u0, u1, u2, u3, u4, u5])) W) : bodyPost Tryz.prog Tryz.f66 R .ret { tmps := tm, defers := [] } W := by
  have d0 := hB.cell 0
  have d1 := hB.cell 1
  have d2 := hB.cell 2
  have d3 := hB.cell 3
  have d4 := hB.cell 4
  have d5 := hB.cell 5
  simp only [List.getElem?_toArray, List.getElem?_cons_zero, List.getElem?_cons_succ] at d0 d1 d2 d3 d4 d5
  rw [Array.getD_eq_getD_getElem?] at h2
  refine bodyPost_ret (v := .agg #[u0, u1, u2, u3, u4, u5]) ?_ rfl hR
  simp [results, Tryz.results66, go_sem, h2, d0, d1, d2, d3, d4, d5]
/-- what a change is answered with -/
def ChE (w : World) (pb : Nat) (d : VD) (m : Bool) (v : V) (r : Ending) (w' : World) : Prop := r = .returned (.agg (edC (chG v))) ∧ Blk w' pb (prC d (m || (chL v).isNone)) 96 ∧ w.grownBy w' (some pb)
set_option maxHeartbeats 4000000 in
set_option maxRecDepth 20000 in
theorem change_any (pb : Nat) (d : VD) (m : Bool) (v : VD) (w : World) (hB : Blk w pb (prC d m) 96) (hv : ValAt w (fun _ => True) v) (hs : sizeV v.v ≤ 1048576) :
    Calls Tryz.prog 66 #[.pointer (some ⟨pb, 0, none⟩), v.val] w (ChE w pb d m v.v) := by
  rw [VD.val6]
  obtain ⟨W0, hW0⟩ : ∃ W0, W0 = (((w.alloc (.cells #[.int .i64 v.sort, .bool v.on, .int .i64 v.n, .string ⟨v.text.toArray⟩, .slice v.a v.list.length v.c, .slice v.ka v.keys.length v.kc] 36)).alloc (.cells #[.int .i64 0, .int .i64 0, .int .i64 0, .int .i64 0, .string { data := #[] }, .bool false] 82)).alloc (.cells #[.int .i64 v.sort, .bool v.on, .int .i64 v.n, .string ⟨v.text.toArray⟩, .slice v.a v.list.length v.c, .slice v.ka v.keys.length v.kc, .bool false] 96)).alloc (.cells #[.int .i64 0, .int .i64 0, .int .i64 0, .int .i64 0, .string { data := #[] }, .bool true] 82) := ⟨_, rfl⟩
  have hb0 : Below w.heap.size w W0 := by rw [hW0]; exact (((below_a1 w _).alloc (by simp) _).alloc (by simp; omega) _).alloc (by simp; omega) _
  have HS0 : Hid (ChS w pb d m v false ⟨0, 0, 0, 0, [], true⟩ W0) := Lib.hid ⟨hb0, hB.ext hb0, by rw [hW0]; exact (((Blk.new rfl).alloc _).alloc _).alloc _, by rw [hW0]; exact ((Blk.new (by simp)).alloc _).alloc _, by rw [hW0]; exact (Blk.new (by simp)).alloc _, by rw [hW0]; exact Blk.new (by simp), (hv.mono fun g _ h => h).ext hb0, hB.lt⟩
  have HSZ := Lib.hid hs
  clear hB hv hs hb0
  go_enter Tryz.func66, Tryz.ntmps66
  go_upto_region 3 with (fail)
  rw [← hW0]
  clear hW0
  obtain ⟨tx, htx⟩ : ∃ x, x = gText v.v [kText] := ⟨_, rfl⟩
  have HTX := Lib.hid htx
  clear htx
  go_wp2_with fail
  have HSa := Lib.hid (HS0.out.ext (below_a1 W0 (.cells #[strV kText] 9)))
  refine (ptext_any (w.heap.size + 2) v false (some ⟨W0.heap.size, 0, none⟩) 1 [kText] _ HSa.out.xblk HSa.out.vx (Row.new1 rfl rfl rfl) (by decide) HSZ.out).mono ?_
  rw [← HTX.out]
  rintro e w1 ⟨rfl, hb1, hg1⟩
  have HS1 := Lib.hid (HSa.out.call hb1 hg1)
  clear hb1 hg1 HSa HS0
  have b0 := HS1.out.eblk.cell 0
  have b1 := HS1.out.eblk.cell 1
  have b2 := HS1.out.eblk.cell 2
  have b3 := HS1.out.eblk.cell 3
  have b4 := HS1.out.eblk.cell 4
  have b5 := HS1.out.eblk.cell 5
  have m0 := HS1.out.eblk.free 0
  have m1 := HS1.out.eblk.free 1
  have m2 := HS1.out.eblk.free 2
  have m3 := HS1.out.eblk.free 3
  have m4 := HS1.out.eblk.free 4
  have m5 := HS1.out.eblk.free 5
  have v0 := HS1.out.vblk.cell 0
  have v1 := HS1.out.vblk.cell 1
  have v2 := HS1.out.vblk.cell 2
  have v3 := HS1.out.vblk.cell 3
  have v4 := HS1.out.vblk.cell 4
  have v5 := HS1.out.vblk.cell 5
  unfold edC at b0 b1 b2 b3 b4 b5
  simp only [List.getElem?_toArray, List.getElem?_cons_zero, List.getElem?_cons_succ] at b0 b1 b2 b3 b4 b5 v0 v1 v2 v3 v4 v5
  have HS2 := Lib.hid (HS1.out.put 4 (.string ⟨(tx.getD []).toArray⟩) (e' := ⟨0, 0, 0, 0, tx.getD [], true⟩) rfl)
  go_upto_region 4 with (fail)
  clear b0 b1 b2 b3 b4 b5 m0 m1 m2 m3 m4 m5 v0 v1 v2 v3 v4 v5
  rw [Bool.false_or] at HS1 HS2
  obtain ⟨W2, hW2⟩ : ∃ W2, W2 = w1.setCell ⟨w.heap.size + 3, 4, none⟩ (.string ⟨(tx.getD []).toArray⟩) := ⟨_, rfl⟩
  rw [← hW2] at HS2 ⊢
  clear hW2 HS1
  have b0 := HS2.out.eblk.cell 0
  have b1 := HS2.out.eblk.cell 1
  have b2 := HS2.out.eblk.cell 2
  have b3 := HS2.out.eblk.cell 3
  have b4 := HS2.out.eblk.cell 4
  have b5 := HS2.out.eblk.cell 5
  have m0 := HS2.out.eblk.free 0
  have m1 := HS2.out.eblk.free 1
  have m2 := HS2.out.eblk.free 2
  have m3 := HS2.out.eblk.free 3
  have m4 := HS2.out.eblk.free 4
  have m5 := HS2.out.eblk.free 5
  have v0 := HS2.out.vblk.cell 0
  have v1 := HS2.out.vblk.cell 1
  have v2 := HS2.out.vblk.cell 2
  have v3 := HS2.out.vblk.cell 3
  have v4 := HS2.out.vblk.cell 4
  have v5 := HS2.out.vblk.cell 5
  unfold edC at b0 b1 b2 b3 b4 b5
  simp only [List.getElem?_toArray, List.getElem?_cons_zero, List.getElem?_cons_succ] at b0 b1 b2 b3 b4 b5 v0 v1 v2 v3 v4 v5
  go_wp2_with fail
  have HSb := Lib.hid (HS2.out.ext (below_a1 W2 (.cells #[strV kRange] 9)))
  refine (get_w (fun _ => True) v (some ⟨W2.heap.size, 0, none⟩) 1 [kRange] _ (HSb.out.val.mono fun _ _ _ => trivial) (Row.new1 rfl rfl rfl) (by decide) HSZ.out).mono ?_
  rintro e w3 ⟨x, b, rfl, hb, -, -, hbl⟩
  have HS3 := Lib.hid ((HSb.out.ext hbl).ext (below_a1 w3 (.cells #[.int .i64 x.sort, .bool x.on, .int .i64 x.n, .string ⟨x.text.toArray⟩, .slice x.a x.list.length x.c, .slice x.ka x.keys.length x.kc] 36)))
  have HB3 := Lib.hid hb.out
  clear b0 b1 b2 b3 b4 b5 m0 m1 m2 m3 m4 m5 v0 v1 v2 v3 v4 v5
  clear hbl hb HSb HS2
  go_upto_region 5 with (fail)
  obtain ⟨W4, hW4⟩ : ∃ W4, W4 = w3.alloc (.cells #[.int .i64 x.sort, .bool x.on, .int .i64 x.n, .string ⟨x.text.toArray⟩, .slice x.a x.list.length x.c, .slice x.ka x.keys.length x.kc] 36) := ⟨_, rfl⟩
  rw [← hW4] at HS3 ⊢
  clear hW4
  cases b with
  | false =>
    have HG : Hid (chG v.v = ⟨0, 0, 0, 0, tx.getD [], true⟩) := Lib.hid (by
      have := HB3.out
      unfold chG
      cases hr : getV v.v [kRange] with
      | none => rw [HTX.out]
      | some y => rw [hr] at this; cases this)
    have HM : Hid ((chL v.v).isNone = tx.isNone) := Lib.hid (by rw [chL_none, ← HB3.out, HTX.out]; simp)
    clear HB3 HTX
    have HS9 : Hid (ChS w pb d m v tx.isNone ⟨0, 0, 0, 0, tx.getD [], true⟩ W4) := HS3
    have c6 := HS9.out.pblk.cell 6
    have x6 := HS9.out.xblk.cell 6
    have p6 := HS9.out.pblk.free 6
    have e0 := HS9.out.eblk.cell 0
    have e1 := HS9.out.eblk.cell 1
    have e2 := HS9.out.eblk.cell 2
    have e3 := HS9.out.eblk.cell 3
    have e4 := HS9.out.eblk.cell 4
    have e5 := HS9.out.eblk.cell 5
    have r0 := HS9.out.rblk.cell 0
    have r1 := HS9.out.rblk.cell 1
    have r2 := HS9.out.rblk.cell 2
    have r3 := HS9.out.rblk.cell 3
    have r4 := HS9.out.rblk.cell 4
    have r5 := HS9.out.rblk.cell 5
    have s0 := HS9.out.rblk.free 0
    have s1 := HS9.out.rblk.free 1
    have s2 := HS9.out.rblk.free 2
    have s3 := HS9.out.rblk.free 3
    have s4 := HS9.out.rblk.free 4
    have s5 := HS9.out.rblk.free 5
    unfold edC at e0 e1 e2 e3 e4 e5 r0 r1 r2 r3 r4 r5
    unfold prC at c6 x6
    simp only [List.getElem?_toArray, List.getElem?_cons_zero, List.getElem?_cons_succ] at e0 e1 e2 e3 e4 e5 r0 r1 r2 r3 r4 r5 c6 x6
    have hpb := HS9.out.pbl
    have q1 : pb ≠ w.heap.size + 3 := by omega
    have q2 : pb ≠ w.heap.size + 1 := by omega
    have q3 : pb ≠ w.heap.size + 2 := by omega
    have HC9 : Hid (Blk ((W4.setCell ⟨pb, 6, none⟩ (.bool (m || tx.isNone)))) (w.heap.size + 1) (edC ⟨0, 0, 0, 0, [], false⟩) 82) := Lib.hid (HS9.out.rblk.other (p := ⟨pb, 6, none⟩) (Ne.symm q2) _)
    have HE9 : Hid (ChE w pb d m v.v (.returned (.agg (edC ⟨0, 0, 0, 0, tx.getD [], true⟩))) (put6 (W4.setCell ⟨pb, 6, none⟩ (.bool (m || tx.isNone))) (w.heap.size + 1) 0 (.int .i64 (⟨0, 0, 0, 0, tx.getD [], true⟩ : E).fl) (.int .i64 (⟨0, 0, 0, 0, tx.getD [], true⟩ : E).fu) (.int .i64 (⟨0, 0, 0, 0, tx.getD [], true⟩ : E).tl) (.int .i64 (⟨0, 0, 0, 0, tx.getD [], true⟩ : E).tu) (.string ⟨(⟨0, 0, 0, 0, tx.getD [], true⟩ : E).text.toArray⟩) (.bool (⟨0, 0, 0, 0, tx.getD [], true⟩ : E).whole))) := Lib.hid ⟨by rw [HG.out], by rw [HM.out]; exact (put6_other q2).trans (HS9.out.pblk.set 6 _), grown_put6 (grown_set (grown_of HS9.out.below) _ _) (by omega) _ _ _ _ _ _⟩
    clear HS3 HG HM
    cases m with
    | true =>
      go_wp2
      exact change_end (g := w.heap.size + 1) rfl (store6 HC9.out) HE9.out
    | false =>
      go_wp2
      exact change_end (g := w.heap.size + 1) rfl (store6 HC9.out) HE9.out
  | true =>
    have b0 := HS3.out.eblk.cell 0
    have b1 := HS3.out.eblk.cell 1
    have b2 := HS3.out.eblk.cell 2
    have b3 := HS3.out.eblk.cell 3
    have b5 := HS3.out.eblk.cell 5
    have m0 := HS3.out.eblk.free 0
    have m1 := HS3.out.eblk.free 1
    have m2 := HS3.out.eblk.free 2
    have m3 := HS3.out.eblk.free 3
    have m5 := HS3.out.eblk.free 5
    unfold edC at b0 b1 b2 b3 b5
    simp only [List.getElem?_toArray, List.getElem?_cons_zero, List.getElem?_cons_succ] at b0 b1 b2 b3 b5
    have HS5 := Lib.hid (HS3.out.put 5 (.bool false) (e' := ⟨0, 0, 0, 0, tx.getD [], false⟩) rfl)
    obtain ⟨n1, hn1⟩ : ∃ x, x = gNum v.v [kRange, kStart, kLine] := ⟨_, rfl⟩
    obtain ⟨n2, hn2⟩ : ∃ x, x = gNum v.v [kRange, kStart, kChar] := ⟨_, rfl⟩
    obtain ⟨n3, hn3⟩ : ∃ x, x = gNum v.v [kRange, kEnd, kLine] := ⟨_, rfl⟩
    obtain ⟨n4, hn4⟩ : ∃ x, x = gNum v.v [kRange, kEnd, kChar] := ⟨_, rfl⟩
    have HNS := Lib.hid (And.intro (And.intro hn1 hn2) (And.intro hn3 hn4))
    clear hn1 hn2 hn3 hn4
    go_upto_region 7 with (fail)
    obtain ⟨W5, hW5⟩ : ∃ W5, W5 = W4.setCell ⟨w.heap.size + 3, 5, none⟩ (.bool false) := ⟨_, rfl⟩
    rw [← hW5] at HS5 ⊢
    clear hW5 HS3
    clear b0 b1 b2 b3 b5 m0 m1 m2 m3 m5
    go_wp2_with fail
    have HSc := Lib.hid (HS5.out.ext (below_a1 W5 (.cells #[strV kRange, strV kStart] 9)))
    have hx5 := HS5.out.xblk.lt
    refine (place_any (w.heap.size + 2) v tx.isNone (some ⟨W5.heap.size, 0, none⟩) 2 [kRange, kStart] _ HSc.out.xblk HSc.out.vx (row_blk (Blk.new rfl) rfl) (fun _ => by simp [blockOf]; omega) (by decide) HSZ.out).mono ?_
    simp only [List.cons_append, List.nil_append]
    rw [← HNS.out.1.1, ← HNS.out.1.2]
    rintro e w6 ⟨rfl, hb6, hg6⟩
    have HS6 := Lib.hid (HSc.out.call hb6 hg6)
    clear hb6 hg6 HSc HS5 hx5
    go_wp2_with fail
    have HSd := Lib.hid (HS6.out.ext (below_a1 w6 (.cells #[strV kRange, strV kEnd] 9)))
    have hx5 := HS6.out.xblk.lt
    refine (place_any (w.heap.size + 2) v (tx.isNone || (n1.isNone || n2.isNone)) (some ⟨w6.heap.size, 0, none⟩) 2 [kRange, kEnd] _ HSd.out.xblk HSd.out.vx (row_blk (Blk.new rfl) rfl) (fun _ => by simp [blockOf]; omega) (by decide) HSZ.out).mono ?_
    simp only [List.cons_append, List.nil_append]
    rw [← HNS.out.2.1, ← HNS.out.2.2]
    rintro e w7 ⟨rfl, hb7, hg7⟩
    have HS7 := Lib.hid (HSd.out.call hb7 hg7)
    clear hb7 hg7 HSd HS6 hx5
    have b0 := HS7.out.eblk.cell 0
    have b1 := HS7.out.eblk.cell 1
    have b2 := HS7.out.eblk.cell 2
    have b3 := HS7.out.eblk.cell 3
    have b5 := HS7.out.eblk.cell 5
    have m0 := HS7.out.eblk.free 0
    have m1 := HS7.out.eblk.free 1
    have m2 := HS7.out.eblk.free 2
    have m3 := HS7.out.eblk.free 3
    have m5 := HS7.out.eblk.free 5
    unfold edC at b0 b1 b2 b3 b5
    simp only [List.getElem?_toArray, List.getElem?_cons_zero, List.getElem?_cons_succ] at b0 b1 b2 b3 b5
    have HSd := Lib.hid ((((HS7.out.put 0 (.int .i64 (n1.getD 0)) (e' := ⟨n1.getD 0, 0, 0, 0, tx.getD [], false⟩) rfl).put 1 (.int .i64 (n2.getD 0)) (e' := ⟨n1.getD 0, n2.getD 0, 0, 0, tx.getD [], false⟩) rfl).put 2 (.int .i64 (n3.getD 0)) (e' := ⟨n1.getD 0, n2.getD 0, n3.getD 0, 0, tx.getD [], false⟩) rfl).put 3 (.int .i64 (n4.getD 0)) (e' := ⟨n1.getD 0, n2.getD 0, n3.getD 0, n4.getD 0, tx.getD [], false⟩) rfl)
    go_upto_region 8 with (fail)
    obtain ⟨W8, hW8⟩ : ∃ W8, W8 = (((w7.setCell ⟨w.heap.size + 3, 0, none⟩ (.int .i64 (n1.getD 0))).setCell ⟨w.heap.size + 3, 1, none⟩ (.int .i64 (n2.getD 0))).setCell ⟨w.heap.size + 3, 2, none⟩ (.int .i64 (n3.getD 0))).setCell ⟨w.heap.size + 3, 3, none⟩ (.int .i64 (n4.getD 0)) := ⟨_, rfl⟩
    rw [← hW8] at HSd ⊢
    clear hW8 HS7
    clear b0 b1 b2 b3 b5 m0 m1 m2 m3 m5
    have HG : Hid (chG v.v = ⟨n1.getD 0, n2.getD 0, n3.getD 0, n4.getD 0, tx.getD [], false⟩) := Lib.hid (by
      have := HB3.out
      unfold chG
      cases hr : getV v.v [kRange] with
      | none => rw [hr] at this; cases this
      | some y => simp only; rw [HTX.out, HNS.out.1.1, HNS.out.1.2, HNS.out.2.1, HNS.out.2.2])
    have HM : Hid ((chL v.v).isNone = (tx.isNone || (n1.isNone || n2.isNone) || (n3.isNone || n4.isNone))) := Lib.hid (by rw [chL_none, ← HB3.out, HTX.out, HNS.out.1.1, HNS.out.1.2, HNS.out.2.1, HNS.out.2.2]; simp [Bool.or_assoc])
    clear HB3 HTX HNS
    have HS9 : Hid (ChS w pb d m v (tx.isNone || (n1.isNone || n2.isNone) || (n3.isNone || n4.isNone)) ⟨n1.getD 0, n2.getD 0, n3.getD 0, n4.getD 0, tx.getD [], false⟩ W8) := HSd
    have c6 := HS9.out.pblk.cell 6
    have x6 := HS9.out.xblk.cell 6
    have p6 := HS9.out.pblk.free 6
    have e0 := HS9.out.eblk.cell 0
    have e1 := HS9.out.eblk.cell 1
    have e2 := HS9.out.eblk.cell 2
    have e3 := HS9.out.eblk.cell 3
    have e4 := HS9.out.eblk.cell 4
    have e5 := HS9.out.eblk.cell 5
    have r0 := HS9.out.rblk.cell 0
    have r1 := HS9.out.rblk.cell 1
    have r2 := HS9.out.rblk.cell 2
    have r3 := HS9.out.rblk.cell 3
    have r4 := HS9.out.rblk.cell 4
    have r5 := HS9.out.rblk.cell 5
    have s0 := HS9.out.rblk.free 0
    have s1 := HS9.out.rblk.free 1
    have s2 := HS9.out.rblk.free 2
    have s3 := HS9.out.rblk.free 3
    have s4 := HS9.out.rblk.free 4
    have s5 := HS9.out.rblk.free 5
    unfold edC at e0 e1 e2 e3 e4 e5 r0 r1 r2 r3 r4 r5
    unfold prC at c6 x6
    simp only [List.getElem?_toArray, List.getElem?_cons_zero, List.getElem?_cons_succ] at e0 e1 e2 e3 e4 e5 r0 r1 r2 r3 r4 r5 c6 x6
    have hpb := HS9.out.pbl
    have q1 : pb ≠ w.heap.size + 3 := by omega
    have q2 : pb ≠ w.heap.size + 1 := by omega
    have q3 : pb ≠ w.heap.size + 2 := by omega
    have HC9 : Hid (Blk ((W8.setCell ⟨pb, 6, none⟩ (.bool (m || (tx.isNone || (n1.isNone || n2.isNone) || (n3.isNone || n4.isNone)))))) (w.heap.size + 1) (edC ⟨0, 0, 0, 0, [], false⟩) 82) := Lib.hid (HS9.out.rblk.other (p := ⟨pb, 6, none⟩) (Ne.symm q2) _)
    have HE9 : Hid (ChE w pb d m v.v (.returned (.agg (edC ⟨n1.getD 0, n2.getD 0, n3.getD 0, n4.getD 0, tx.getD [], false⟩))) (put6 (W8.setCell ⟨pb, 6, none⟩ (.bool (m || (tx.isNone || (n1.isNone || n2.isNone) || (n3.isNone || n4.isNone))))) (w.heap.size + 1) 0 (.int .i64 (⟨n1.getD 0, n2.getD 0, n3.getD 0, n4.getD 0, tx.getD [], false⟩ : E).fl) (.int .i64 (⟨n1.getD 0, n2.getD 0, n3.getD 0, n4.getD 0, tx.getD [], false⟩ : E).fu) (.int .i64 (⟨n1.getD 0, n2.getD 0, n3.getD 0, n4.getD 0, tx.getD [], false⟩ : E).tl) (.int .i64 (⟨n1.getD 0, n2.getD 0, n3.getD 0, n4.getD 0, tx.getD [], false⟩ : E).tu) (.string ⟨(⟨n1.getD 0, n2.getD 0, n3.getD 0, n4.getD 0, tx.getD [], false⟩ : E).text.toArray⟩) (.bool (⟨n1.getD 0, n2.getD 0, n3.getD 0, n4.getD 0, tx.getD [], false⟩ : E).whole))) := Lib.hid ⟨by rw [HG.out], by rw [HM.out]; exact (put6_other q2).trans (HS9.out.pblk.set 6 _), grown_put6 (grown_set (grown_of HS9.out.below) _ _) (by omega) _ _ _ _ _ _⟩
    clear HSd HG HM
    cases m with
    | true =>
      go_wp2
      exact change_end (g := w.heap.size + 1) rfl (store6 HC9.out) HE9.out
    | false =>
      go_wp2
      exact change_end (g := w.heap.size + 1) rfl (store6 HC9.out) HE9.out
end Go.Proofs.YthnbeebilomchaaGreatDoor

namespace Go.Proofs.YthnbeebilomchaaGreatDoor
open Go Go.RowKit

/-- a call's cells -/
def cdC (c : CD) : Array Value := #[.int .i64 c.kind, .int .i64 c.id.sort, .bool c.id.on, .int .i64 c.id.n, .string ⟨c.id.text.toArray⟩, .slice c.id.a c.id.list.length c.id.c, .slice c.id.ka c.id.keys.length c.id.kc,
  .string ⟨c.name.toArray⟩, .int .i64 c.version, .string ⟨c.text.toArray⟩, .slice c.a c.changes.length c.c, .int .i64 c.pl, .int .i64 c.pu,
  .int .i64 c.other.sort, .bool c.other.on, .int .i64 c.other.n, .string ⟨c.other.text.toArray⟩, .slice c.other.a c.other.list.length c.other.c, .slice c.other.ka c.other.keys.length c.other.kc]
def zeroCD : CD := ⟨0, zeroD, [], 0, [], none, 0, [], 0, 0, zeroD⟩
def ofCD (k : Int) (x : VD) : CD := { zeroCD with kind := k, id := x }
/-- the blocks of what came in: no new ones, not the params' box, and what else is asked -/
def PP (w : World) (P : Nat → Prop) (pb g : Nat) : Prop := (g < w.heap.size ∧ g ≠ pb) ∧ P g
/-- a call in memory, its rows in blocks that are P -/
structure CallP (w : World) (P : Nat → Prop) (d : CD) : Prop where
  id : ValAt w P d.id
  other : ValAt w P d.other
  row : Row w 6 d.a d.changes.length (d.changes.flatMap E.cells)
  blk : ∀ g, 0 < d.changes.length → blockOf d.a = some g → P g
structure TlS (w : World) (P : Nat → Prop) (pb : Nat) (d : VD) (m : Bool) (c : CD) (W : World) : Prop where
  pblk : Blk W pb (prC d m) 96
  cblk : Blk W w.heap.size (cdC c) 43
  rblk : Blk W (w.heap.size + 1) (cdC zeroCD) 43
  grown : w.grownBy W (some pb)
  pbl : pb < w.heap.size
  val : ValAt W (PP w P pb) d
  id : ValAt W (PP w P pb) c.id
  other : ValAt W (PP w P pb) c.other
  own : Own W (w.heap.size + 2) 82 6 c.a c.changes.length c.c (c.changes.flatMap E.cells)
section
variable {w : World} {P : Nat → Prop} {pb : Nat} {d : VD} {m m' : Bool} {c c' : CD} {W W' : World}
theorem TlS.ext (h : TlS w P pb d m c W) (hb : Below W.heap.size W W') : TlS w P pb d m c W' :=
  ⟨h.pblk.ext hb, h.cblk.ext hb, h.rblk.ext hb, grown_trans h.grown (grown_of hb), h.pbl, h.val.ext hb, h.id.ext hb, h.other.ext hb, h.own.ext hb⟩
theorem TlS.vx (h : TlS w P pb d m c W) : ValAt W (fun g => g ≠ pb) d := h.val.mono fun _ h1 _ => h1.1.2
theorem TlS.call (h : TlS w P pb d m c W) (hb : Blk W' pb (prC d m') 96) (hg : W.grownBy W' (some pb)) : TlS w P pb d m' c W' := by
  have h1 := h.pbl
  have q0 : some w.heap.size ≠ some pb := by simp; omega
  have q1 : some (w.heap.size + 1) ≠ some pb := by simp; omega
  have qv : ∀ {y : VD}, ValAt W (PP w P pb) y → ValAt W' (PP w P pb) y := fun hy => hy.congr fun g h2 h3 => hg.block g h3 (by simpa using h2.1.2)
  refine ⟨hb, h.cblk.grown hg q0, h.rblk.grown hg q1, grown_trans h.grown hg, h.pbl, qv h.val, qv h.id, qv h.other, ?_⟩
  refine h.own.kept hg ?_
  cases ha : blockOf c.a with
  | none => exact .inl rfl
  | some g => exact .inr (by have := h.own.base ha; simp; omega)
/-- a store into the call's box -/
theorem TlS.put (h : TlS w P pb d m c W) (o : Nat) (u : Value) (hc : (cdC c).setIfInBounds o u = cdC c') (hi : c'.id = c.id) (ho : ValAt W (PP w P pb) c'.other) (hch : c'.a = c.a ∧ c'.c = c.c ∧ c'.changes = c.changes) : TlS w P pb d m c' (W.setCell ⟨w.heap.size, o, none⟩ u) := by
  have h1 := h.pbl
  have q0 : pb ≠ w.heap.size := by omega
  have q1 : w.heap.size + 1 ≠ w.heap.size := by omega
  have qv : ∀ {y : VD}, ValAt W (PP w P pb) y → ValAt (W.setCell ⟨w.heap.size, o, none⟩ u) (PP w P pb) y := fun hy => hy.congr fun g h2 h3 => Below.heap_setCell W _ u g (fun e => by have : g = w.heap.size := e; have := h2.1.1; omega)
  refine ⟨h.pblk.other (p := ⟨w.heap.size, o, none⟩) q0 _, by rw [← hc]; exact h.cblk.set o u, h.rblk.other (p := ⟨w.heap.size, o, none⟩) q1 _, grown_put h.grown (Nat.le_refl _) _ _, h.pbl, qv h.val, by rw [hi]; exact qv h.id, qv ho, ?_⟩
  rw [hch.1, hch.2.1, hch.2.2]
  refine h.own.setCell_other (p := ⟨w.heap.size, o, none⟩) (fun e => ?_) u
  have := h.own.base e
  simp at this
  omega
end
/-- what params tell: how it is answered -/
def TellE (w : World) (P : Nat → Prop) (pb : Nat) (d : VD) (r : Option C) (e : Ending) (w' : World) : Prop :=
  Blk w' pb (prC d r.isNone) 96 ∧ w.grownBy w' (some pb) ∧ ∃ c : CD, e = .returned (.agg (cdC c)) ∧ CallP w' (fun g => P g ∨ w.heap.size ≤ g) c ∧ 0 ≤ c.kind ∧ ∀ y, r = some y → c.k = y
end Go.Proofs.YthnbeebilomchaaGreatDoor

namespace Go.Proofs.YthnbeebilomchaaGreatDoor
open Go Go.RowKit

theorem setRow_blk {w : World} {g : Nat} {cur cs : Array Value} {T : TypeId} (h : Blk w g cur T) : Blk (w.setRow g cs) g cs T := setRow_heap w g cur cs T _ h
theorem setRow_far {w : World} {g k : Nat} {cs : Array Value} (h : k ≠ g) : (w.setRow g cs).heap[k]? = w.heap[k]? := setRow_other w g k cs h
theorem grown_row {w w' : World} {row : Option Nat} (h : w.grownBy w' row) {g : Nat} (hg : w.heap.size ≤ g) (cs : Array Value) : w.grownBy (w'.setRow g cs) row :=
  ⟨h.os, h.tape, h.output, by have := h.size; simp [World.setRow]; exact this, fun k hk hne => (setRow_far (by omega)).trans (h.block k hk hne)⟩
theorem call_size : (Tryz.prog.info? 43).map (·.size) = some 19 := by kernel_rfl
theorem call_under : ∃ fs, Tryz.prog.underlying 43 = some (.struct fs) := by
  have h : (match Tryz.prog.underlying 43 with | some (.struct _) => true | _ => false) = true := by kernel_rfl
  cases hq : Tryz.prog.underlying 43 with
  | none => rw [hq] at h; cases h
  | some d => cases d <;> (rw [hq] at h; first | (cases h; done) | exact ⟨_, rfl⟩)
theorem cdC_one (c : CD) : (cdC c).all (·.oneCell') = true := by simp [cdC, Value.oneCell']
theorem load_call {ops : Array Oper} {rest : List Oper} {o : Oper} {a : Act} {w : World} {Q : Exit → Act → World → Prop} (hgd : o.guard = none) (x : Operand) (ho : o.op = .load 43 x) (g : Nat) (hx : a.eval x = .pointer (some ⟨g, 0, none⟩)) (c : CD) (hg : Blk w g (cdC c) 43)
    (h : wpList Tryz.prog ops Q rest (a.put o.dst (.agg (cdC c))) w) : wpList Tryz.prog ops Q (o :: rest) a w := by
  obtain ⟨fs, h1⟩ := call_under
  exact wpList_load_row hgd _ x ho g hx _ _ _ _ hg h1 rfl call_size h
theorem store_call {ops : Array Oper} {rest : List Oper} {o : Oper} {a : Act} {w : World} {Q : Exit → Act → World → Prop} (hgd : o.guard = none) (x y : Operand) (ho : o.op = .store 43 x y) (g : Nat) (c c' : CD) (hx : a.eval x = .pointer (some ⟨g, 0, none⟩)) (hy : a.eval y = .agg (cdC c)) (hg : Blk w g (cdC c') 43)
    (h : wpList Tryz.prog ops Q rest (a.put o.dst undef) (w.setRow g (cdC c))) : wpList Tryz.prog ops Q (o :: rest) a w :=
  wpList_store_row hgd _ x y ho g _ hx hy _ _ hg call_size rfl (cdC_one c) h
theorem tell_end {W : World} {tm : Array Value} {R : Ending → World → Prop} {g : Nat} {c : CD} (h2 : tm.getD 4 undef = .pointer (some ⟨g, 0, none⟩)) (hB : Blk W g (cdC c) 43)
    (hR : R (.returned (.agg (cdC c))) W) : bodyPost Tryz.prog Tryz.f48 R .ret { tmps := tm, defers := [] } W := by
  obtain ⟨fs, h1⟩ := call_under
  exact bodyPost_ret (v := .agg (cdC c)) (results_cell_row Tryz.results48 tm W g _ _ _ _ h2 hB h1 rfl call_size) rfl hR
/-- it is handed back -/
theorem TlS.fin {w : World} {P : Nat → Prop} {pb : Nat} {d : VD} {m : Bool} {c : CD} {W : World} {r : Option C} (h : TlS w P pb d m c W) (hm : m = r.isNone) (hk : 0 ≤ c.kind) (hc : ∀ y, r = some y → c.k = y) :
    TellE w P pb d r (.returned (.agg (cdC c))) (W.setRow (w.heap.size + 1) (cdC c)) := by
  have h1 := h.pbl
  have q0 : pb ≠ w.heap.size + 1 := by omega
  have qv : ∀ {y : VD}, ValAt W (PP w P pb) y → ValAt (W.setRow (w.heap.size + 1) (cdC c)) (fun g => P g ∨ w.heap.size ≤ g) y := fun hy => (hy.congr fun g h2 h3 => setRow_far (by have := h2.1.1; omega)).mono fun _ h2 _ => .inl h2.2
  refine ⟨by rw [← hm]; exact (setRow_far q0).trans h.pblk, grown_row h.grown (by omega) _, c, rfl, ⟨qv h.id, qv h.other, h.own.row.congr fun g h2 h3 h4 => setRow_far (fun e => ?_), fun g _ h3 => .inr (by have := h.own.base h3; omega)⟩, hk, hc⟩
  have := h.own.base h3
  omega
set_option maxHeartbeats 4000000 in
set_option maxRecDepth 20000 in
theorem tell_1 (P : Nat → Prop) (pb : Nat) (d x : VD) (w : World) (hB : Blk w pb (prC d false) 96) (hv : ValAt w (fun g => g ≠ pb ∧ P g) d) (hx : ValAt w (fun g => g ≠ pb ∧ P g) x) (hs : sizeV d.v ≤ 1048576) :
    Calls Tryz.prog 48 #[.pointer (some ⟨pb, 0, none⟩), .agg (cdC (ofCD 1 x))] w (TellE w P pb d (tellL 1 x.v d.v)) := by
  obtain ⟨W0, hW0⟩ : ∃ W0, W0 = (w.alloc (.cells (cdC (ofCD 1 x)) 43)).alloc (.cells #[.int .i64 0, .int .i64 0, .bool false, .int .i64 0, .string { data := #[] }, .slice none 0 0, .slice none 0 0, .string { data := #[] }, .int .i64 0, .string { data := #[] }, .slice none 0 0, .int .i64 0, .int .i64 0, .int .i64 0, .bool false, .int .i64 0, .string { data := #[] }, .slice none 0 0, .slice none 0 0] 43) := ⟨_, rfl⟩
  have hb0 : Below w.heap.size w W0 := by rw [hW0]; exact (below_a1 w _).alloc (by simp) _
  have HS0 : Hid (TlS w P pb d false (ofCD 1 x) W0) := Lib.hid ⟨hB.ext hb0, by rw [hW0]; exact (Blk.new rfl).alloc _, by rw [hW0]; exact Blk.new (by simp), grown_of hb0, hB.lt, (hv.mono fun g h1 h2 => ⟨⟨h2, h1.1⟩, h1.2⟩).ext hb0, (hx.mono fun g h1 h2 => ⟨⟨h2, h1.1⟩, h1.2⟩).ext hb0, .leaf, Own.nil _ _ _ _⟩
  have HSZ := Lib.hid hs
  have c0 : W0.cell? ⟨w.heap.size, 0, none⟩ = some (.int .i64 1) := HS0.out.cblk.cell 0
  clear hB hv hx hs hb0
  go_enter Tryz.func48, Tryz.ntmps48
  go_upto_region 1 with (fail)
  rw [← hW0]
  clear hW0
  go_wp2_with (first | ((with_reducible show wpList _ _ _ (⟨some 13, _, _, _, _, _⟩ :: _) _ _); refine load_call rfl _ rfl w.heap.size rfl (ofCD 1 x) HS0.out.cblk ?_) | ((with_reducible show wpList _ _ _ (⟨none, Op.store 43 _ _, _, _, _, _⟩ :: _) _ _); refine store_call rfl _ _ rfl (w.heap.size + 1) (ofCD 1 x) zeroCD rfl rfl HS0.out.rblk ?_))
  exact tell_end (g := w.heap.size + 1) rfl (setRow_blk HS0.out.rblk) (HS0.out.fin rfl (by show (0 : Int) ≤ 1; decide) (fun y hy => by cases hy; rfl))
set_option maxHeartbeats 4000000 in
set_option maxRecDepth 20000 in
theorem tell_2 (P : Nat → Prop) (pb : Nat) (d x : VD) (w : World) (hB : Blk w pb (prC d false) 96) (hv : ValAt w (fun g => g ≠ pb ∧ P g) d) (hx : ValAt w (fun g => g ≠ pb ∧ P g) x) (hs : sizeV d.v ≤ 1048576) :
    Calls Tryz.prog 48 #[.pointer (some ⟨pb, 0, none⟩), .agg (cdC (ofCD 2 x))] w (TellE w P pb d (tellL 2 x.v d.v)) := by
  obtain ⟨W0, hW0⟩ : ∃ W0, W0 = (w.alloc (.cells (cdC (ofCD 2 x)) 43)).alloc (.cells #[.int .i64 0, .int .i64 0, .bool false, .int .i64 0, .string { data := #[] }, .slice none 0 0, .slice none 0 0, .string { data := #[] }, .int .i64 0, .string { data := #[] }, .slice none 0 0, .int .i64 0, .int .i64 0, .int .i64 0, .bool false, .int .i64 0, .string { data := #[] }, .slice none 0 0, .slice none 0 0] 43) := ⟨_, rfl⟩
  have hb0 : Below w.heap.size w W0 := by rw [hW0]; exact (below_a1 w _).alloc (by simp) _
  have HS0 : Hid (TlS w P pb d false (ofCD 2 x) W0) := Lib.hid ⟨hB.ext hb0, by rw [hW0]; exact (Blk.new rfl).alloc _, by rw [hW0]; exact Blk.new (by simp), grown_of hb0, hB.lt, (hv.mono fun g h1 h2 => ⟨⟨h2, h1.1⟩, h1.2⟩).ext hb0, (hx.mono fun g h1 h2 => ⟨⟨h2, h1.1⟩, h1.2⟩).ext hb0, .leaf, Own.nil _ _ _ _⟩
  have HSZ := Lib.hid hs
  have c0 : W0.cell? ⟨w.heap.size, 0, none⟩ = some (.int .i64 2) := HS0.out.cblk.cell 0
  clear hB hv hx hs hb0
  go_enter Tryz.func48, Tryz.ntmps48
  go_upto_region 1 with (fail)
  rw [← hW0]
  clear hW0
  go_wp2_with (first | ((with_reducible show wpList _ _ _ (⟨some 13, _, _, _, _, _⟩ :: _) _ _); refine load_call rfl _ rfl w.heap.size rfl (ofCD 2 x) HS0.out.cblk ?_) | ((with_reducible show wpList _ _ _ (⟨none, Op.store 43 _ _, _, _, _, _⟩ :: _) _ _); refine store_call rfl _ _ rfl (w.heap.size + 1) (ofCD 2 x) zeroCD rfl rfl HS0.out.rblk ?_))
  exact tell_end (g := w.heap.size + 1) rfl (setRow_blk HS0.out.rblk) (HS0.out.fin rfl (by show (0 : Int) ≤ 2; decide) (fun y hy => by cases hy; rfl))
set_option maxHeartbeats 4000000 in
set_option maxRecDepth 20000 in
theorem tell_3 (P : Nat → Prop) (pb : Nat) (d x : VD) (w : World) (hB : Blk w pb (prC d false) 96) (hv : ValAt w (fun g => g ≠ pb ∧ P g) d) (hx : ValAt w (fun g => g ≠ pb ∧ P g) x) (hs : sizeV d.v ≤ 1048576) :
    Calls Tryz.prog 48 #[.pointer (some ⟨pb, 0, none⟩), .agg (cdC (ofCD 3 x))] w (TellE w P pb d (tellL 3 x.v d.v)) := by
  obtain ⟨W0, hW0⟩ : ∃ W0, W0 = (w.alloc (.cells (cdC (ofCD 3 x)) 43)).alloc (.cells #[.int .i64 0, .int .i64 0, .bool false, .int .i64 0, .string { data := #[] }, .slice none 0 0, .slice none 0 0, .string { data := #[] }, .int .i64 0, .string { data := #[] }, .slice none 0 0, .int .i64 0, .int .i64 0, .int .i64 0, .bool false, .int .i64 0, .string { data := #[] }, .slice none 0 0, .slice none 0 0] 43) := ⟨_, rfl⟩
  have hb0 : Below w.heap.size w W0 := by rw [hW0]; exact (below_a1 w _).alloc (by simp) _
  have HS0 : Hid (TlS w P pb d false (ofCD 3 x) W0) := Lib.hid ⟨hB.ext hb0, by rw [hW0]; exact (Blk.new rfl).alloc _, by rw [hW0]; exact Blk.new (by simp), grown_of hb0, hB.lt, (hv.mono fun g h1 h2 => ⟨⟨h2, h1.1⟩, h1.2⟩).ext hb0, (hx.mono fun g h1 h2 => ⟨⟨h2, h1.1⟩, h1.2⟩).ext hb0, .leaf, Own.nil _ _ _ _⟩
  have HSZ := Lib.hid hs
  have c0 : W0.cell? ⟨w.heap.size, 0, none⟩ = some (.int .i64 3) := HS0.out.cblk.cell 0
  clear hB hv hx hs hb0
  go_enter Tryz.func48, Tryz.ntmps48
  go_upto_region 1 with (fail)
  rw [← hW0]
  clear hW0
  go_wp2_with (first | ((with_reducible show wpList _ _ _ (⟨some 13, _, _, _, _, _⟩ :: _) _ _); refine load_call rfl _ rfl w.heap.size rfl (ofCD 3 x) HS0.out.cblk ?_) | ((with_reducible show wpList _ _ _ (⟨none, Op.store 43 _ _, _, _, _, _⟩ :: _) _ _); refine store_call rfl _ _ rfl (w.heap.size + 1) (ofCD 3 x) zeroCD rfl rfl HS0.out.rblk ?_))
  exact tell_end (g := w.heap.size + 1) rfl (setRow_blk HS0.out.rblk) (HS0.out.fin rfl (by show (0 : Int) ≤ 3; decide) (fun y hy => by cases hy; rfl))
/-- the call's box has turned -/
theorem TlS.set {w : World} {P : Nat → Prop} {pb : Nat} {d : VD} {m : Bool} {c c' : CD} {W W' : World} (h : TlS w P pb d m c W) (hg : W.grownBy W' (some w.heap.size)) (hb : Blk W' w.heap.size (cdC c') 43) (hi : c'.id = c.id) (ho : ValAt W (PP w P pb) c'.other) (hch : c'.a = c.a ∧ c'.c = c.c ∧ c'.changes = c.changes) : TlS w P pb d m c' W' := by
  have h1 := h.pbl
  have q0 : some pb ≠ some w.heap.size := by simp; omega
  have qv : ∀ {y : VD}, ValAt W (PP w P pb) y → ValAt W' (PP w P pb) y := fun hy => hy.congr fun g h2 h3 => hg.block g h3 (by have := h2.1.1; simp; omega)
  refine ⟨h.pblk.grown hg q0, hb, h.rblk.grown hg (by simp), ⟨hg.os.trans h.grown.os, hg.tape.trans h.grown.tape, hg.output.trans h.grown.output, Nat.le_trans h.grown.size hg.size, fun k hk hne => (hg.block k (by have := h.grown.size; omega) (by simp; omega)).trans (h.grown.block k hk hne)⟩, h1, qv h.val, by rw [hi]; exact qv h.id, qv ho, ?_⟩
  rw [hch.1, hch.2.1, hch.2.2]
  refine h.own.kept hg ?_
  cases ha : blockOf c.a with
  | none => exact .inl rfl
  | some g => exact .inr (by have := h.own.base ha; simp; omega)
/-! ### what the kinds tell, plainly -/
theorem tl_name {k : Nat} {x p : V} (hk : k = 6 ∨ k = 8) : tellL k x p = (gText p [kDoc, kUri]).map fun n => { C.of k x with name := n } := by
  rcases hk with rfl | rfl <;> (unfold tellL; simp only [Nat.reduceLeDiff, if_false, Nat.reduceEqDiff]; cases gText p [kDoc, kUri] <;> rfl)
theorem tl_4 (x p : V) : tellL 4 x p = (gText p [kDoc, kUri]).bind fun name => (gNum p [kDoc, kVersion]).bind fun n => (gText p [kDoc, kText]).map fun t => { C.of 4 x with name := name, version := n, text := t } := rfl
theorem tl_7 (x p : V) : tellL 7 x p = (gText p [kDoc, kUri]).bind fun name => (gPlace p [kPosition]).map fun a => { C.of 7 x with name := name, pl := a.1, pu := a.2 } := rfl
theorem tl_9 (x p : V) : tellL 9 x p = if idOk ((getV p [kId]).getD .null) = true then some { C.of 9 x with other := (getV p [kId]).getD .null } else none := by
  have e : tellL 9 x p = (match getV p [kId] with | some y => if idOk y then some { C.of 9 x with other := y } else none | none => none) := rfl
  rw [e]
  cases getV p [kId] <;> rfl
set_option maxHeartbeats 4000000 in
set_option maxRecDepth 20000 in
theorem tell_6 (P : Nat → Prop) (pb : Nat) (d x : VD) (w : World) (hB : Blk w pb (prC d false) 96) (hv : ValAt w (fun g => g ≠ pb ∧ P g) d) (hx : ValAt w (fun g => g ≠ pb ∧ P g) x) (hs : sizeV d.v ≤ 1048576) :
    Calls Tryz.prog 48 #[.pointer (some ⟨pb, 0, none⟩), .agg (cdC (ofCD 6 x))] w (TellE w P pb d (tellL 6 x.v d.v)) := by
  obtain ⟨W0, hW0⟩ : ∃ W0, W0 = (w.alloc (.cells (cdC (ofCD 6 x)) 43)).alloc (.cells #[.int .i64 0, .int .i64 0, .bool false, .int .i64 0, .string { data := #[] }, .slice none 0 0, .slice none 0 0, .string { data := #[] }, .int .i64 0, .string { data := #[] }, .slice none 0 0, .int .i64 0, .int .i64 0, .int .i64 0, .bool false, .int .i64 0, .string { data := #[] }, .slice none 0 0, .slice none 0 0] 43) := ⟨_, rfl⟩
  have hb0 : Below w.heap.size w W0 := by rw [hW0]; exact (below_a1 w _).alloc (by simp) _
  have HS0 : Hid (TlS w P pb d false (ofCD 6 x) W0) := Lib.hid ⟨hB.ext hb0, by rw [hW0]; exact (Blk.new rfl).alloc _, by rw [hW0]; exact Blk.new (by simp), grown_of hb0, hB.lt, (hv.mono fun g h1 h2 => ⟨⟨h2, h1.1⟩, h1.2⟩).ext hb0, (hx.mono fun g h1 h2 => ⟨⟨h2, h1.1⟩, h1.2⟩).ext hb0, .leaf, Own.nil _ _ _ _⟩
  have HSZ := Lib.hid hs
  have c0 : W0.cell? ⟨w.heap.size, 0, none⟩ = some (.int .i64 6) := HS0.out.cblk.cell 0
  clear hB hv hx hs hb0
  go_enter Tryz.func48, Tryz.ntmps48
  go_upto_region 1 with (fail)
  rw [← hW0]
  clear hW0
  obtain ⟨n1, hn1⟩ : ∃ x, x = gText d.v [kDoc, kUri] := ⟨_, rfl⟩
  have Hn1 := Lib.hid hn1
  clear hn1
  go_wp2_with fail
  have HA1 := Lib.hid (HS0.out.ext (below_a1 W0 (.cells #[strV kDoc, strV kUri] 9)))
  refine (ptext_any pb d (false) (some ⟨W0.heap.size, 0, none⟩) 2 [kDoc, kUri] _ HA1.out.pblk HA1.out.vx (row_blk (Blk.new rfl) rfl) (by decide) HSZ.out).mono ?_
  rw [← Hn1.out]
  rintro e w1 ⟨rfl, hb1, hg1⟩
  have HC1 := Lib.hid (HA1.out.call hb1 hg1)
  clear hb1 hg1 HA1 HS0
  clear c0
  have c7 := HC1.out.cblk.cell 7
  have g7 := HC1.out.cblk.free 7
  unfold cdC at c7
  simp only [List.getElem?_toArray, List.getElem?_cons_zero, List.getElem?_cons_succ] at c7
  have HD1 := Lib.hid (HC1.out.put 7 (.string ⟨(n1.getD []).toArray⟩) (c' := { ofCD 6 x with name := n1.getD [] }) rfl rfl .leaf ⟨rfl, rfl, rfl⟩)
  rw [Bool.false_or] at HD1
  go_upto_region 11 with (fail)
  obtain ⟨W1, hW1⟩ : ∃ W1, W1 = w1.setCell ⟨w.heap.size, 7, none⟩ (.string ⟨(n1.getD []).toArray⟩) := ⟨_, rfl⟩
  rw [← hW1] at HD1 ⊢
  clear hW1 HC1
  clear c7 g7
  have c0 : W1.cell? ⟨w.heap.size, 0, none⟩ = some (.int .i64 6) := HD1.out.cblk.cell 0
  go_wp2_with (first | ((with_reducible show wpList _ _ _ (⟨some 80, _, _, _, _, _⟩ :: _) _ _); refine load_call rfl _ rfl w.heap.size rfl ({ ofCD 6 x with name := n1.getD [] }) HD1.out.cblk ?_) | ((with_reducible show wpList _ _ _ (⟨none, Op.store 43 _ _, _, _, _, _⟩ :: _) _ _); refine store_call rfl _ _ rfl (w.heap.size + 1) ({ ofCD 6 x with name := n1.getD [] }) zeroCD rfl rfl HD1.out.rblk ?_))
  exact tell_end (g := w.heap.size + 1) rfl (setRow_blk HD1.out.rblk) (HD1.out.fin (by rw [Hn1.out, tl_name (by decide)]; cases gText d.v [kDoc, kUri] <;> rfl) (by show (0 : Int) ≤ 6; decide) (fun y hy => by rw [tl_name (by decide), ← Hn1.out] at hy; cases n1 with | none => cases hy | some n => cases hy; rfl))
set_option maxHeartbeats 4000000 in
set_option maxRecDepth 20000 in
theorem tell_8 (P : Nat → Prop) (pb : Nat) (d x : VD) (w : World) (hB : Blk w pb (prC d false) 96) (hv : ValAt w (fun g => g ≠ pb ∧ P g) d) (hx : ValAt w (fun g => g ≠ pb ∧ P g) x) (hs : sizeV d.v ≤ 1048576) :
    Calls Tryz.prog 48 #[.pointer (some ⟨pb, 0, none⟩), .agg (cdC (ofCD 8 x))] w (TellE w P pb d (tellL 8 x.v d.v)) := by
  obtain ⟨W0, hW0⟩ : ∃ W0, W0 = (w.alloc (.cells (cdC (ofCD 8 x)) 43)).alloc (.cells #[.int .i64 0, .int .i64 0, .bool false, .int .i64 0, .string { data := #[] }, .slice none 0 0, .slice none 0 0, .string { data := #[] }, .int .i64 0, .string { data := #[] }, .slice none 0 0, .int .i64 0, .int .i64 0, .int .i64 0, .bool false, .int .i64 0, .string { data := #[] }, .slice none 0 0, .slice none 0 0] 43) := ⟨_, rfl⟩
  have hb0 : Below w.heap.size w W0 := by rw [hW0]; exact (below_a1 w _).alloc (by simp) _
  have HS0 : Hid (TlS w P pb d false (ofCD 8 x) W0) := Lib.hid ⟨hB.ext hb0, by rw [hW0]; exact (Blk.new rfl).alloc _, by rw [hW0]; exact Blk.new (by simp), grown_of hb0, hB.lt, (hv.mono fun g h1 h2 => ⟨⟨h2, h1.1⟩, h1.2⟩).ext hb0, (hx.mono fun g h1 h2 => ⟨⟨h2, h1.1⟩, h1.2⟩).ext hb0, .leaf, Own.nil _ _ _ _⟩
  have HSZ := Lib.hid hs
  have c0 : W0.cell? ⟨w.heap.size, 0, none⟩ = some (.int .i64 8) := HS0.out.cblk.cell 0
  clear hB hv hx hs hb0
  go_enter Tryz.func48, Tryz.ntmps48
  go_upto_region 1 with (fail)
  rw [← hW0]
  clear hW0
  obtain ⟨n1, hn1⟩ : ∃ x, x = gText d.v [kDoc, kUri] := ⟨_, rfl⟩
  have Hn1 := Lib.hid hn1
  clear hn1
  go_wp2_with fail
  have HA1 := Lib.hid (HS0.out.ext (below_a1 W0 (.cells #[strV kDoc, strV kUri] 9)))
  refine (ptext_any pb d (false) (some ⟨W0.heap.size, 0, none⟩) 2 [kDoc, kUri] _ HA1.out.pblk HA1.out.vx (row_blk (Blk.new rfl) rfl) (by decide) HSZ.out).mono ?_
  rw [← Hn1.out]
  rintro e w1 ⟨rfl, hb1, hg1⟩
  have HC1 := Lib.hid (HA1.out.call hb1 hg1)
  clear hb1 hg1 HA1 HS0
  clear c0
  have c7 := HC1.out.cblk.cell 7
  have g7 := HC1.out.cblk.free 7
  unfold cdC at c7
  simp only [List.getElem?_toArray, List.getElem?_cons_zero, List.getElem?_cons_succ] at c7
  have HD1 := Lib.hid (HC1.out.put 7 (.string ⟨(n1.getD []).toArray⟩) (c' := { ofCD 8 x with name := n1.getD [] }) rfl rfl .leaf ⟨rfl, rfl, rfl⟩)
  rw [Bool.false_or] at HD1
  go_upto_region 11 with (fail)
  obtain ⟨W1, hW1⟩ : ∃ W1, W1 = w1.setCell ⟨w.heap.size, 7, none⟩ (.string ⟨(n1.getD []).toArray⟩) := ⟨_, rfl⟩
  rw [← hW1] at HD1 ⊢
  clear hW1 HC1
  clear c7 g7
  have c0 : W1.cell? ⟨w.heap.size, 0, none⟩ = some (.int .i64 8) := HD1.out.cblk.cell 0
  go_wp2_with (first | ((with_reducible show wpList _ _ _ (⟨some 80, _, _, _, _, _⟩ :: _) _ _); refine load_call rfl _ rfl w.heap.size rfl ({ ofCD 8 x with name := n1.getD [] }) HD1.out.cblk ?_) | ((with_reducible show wpList _ _ _ (⟨none, Op.store 43 _ _, _, _, _, _⟩ :: _) _ _); refine store_call rfl _ _ rfl (w.heap.size + 1) ({ ofCD 8 x with name := n1.getD [] }) zeroCD rfl rfl HD1.out.rblk ?_))
  exact tell_end (g := w.heap.size + 1) rfl (setRow_blk HD1.out.rblk) (HD1.out.fin (by rw [Hn1.out, tl_name (by decide)]; cases gText d.v [kDoc, kUri] <;> rfl) (by show (0 : Int) ≤ 8; decide) (fun y hy => by rw [tl_name (by decide), ← Hn1.out] at hy; cases n1 with | none => cases hy | some n => cases hy; rfl))
set_option maxHeartbeats 4000000 in
set_option maxRecDepth 20000 in
theorem tell_4 (P : Nat → Prop) (pb : Nat) (d x : VD) (w : World) (hB : Blk w pb (prC d false) 96) (hv : ValAt w (fun g => g ≠ pb ∧ P g) d) (hx : ValAt w (fun g => g ≠ pb ∧ P g) x) (hs : sizeV d.v ≤ 1048576) :
    Calls Tryz.prog 48 #[.pointer (some ⟨pb, 0, none⟩), .agg (cdC (ofCD 4 x))] w (TellE w P pb d (tellL 4 x.v d.v)) := by
  obtain ⟨W0, hW0⟩ : ∃ W0, W0 = (w.alloc (.cells (cdC (ofCD 4 x)) 43)).alloc (.cells #[.int .i64 0, .int .i64 0, .bool false, .int .i64 0, .string { data := #[] }, .slice none 0 0, .slice none 0 0, .string { data := #[] }, .int .i64 0, .string { data := #[] }, .slice none 0 0, .int .i64 0, .int .i64 0, .int .i64 0, .bool false, .int .i64 0, .string { data := #[] }, .slice none 0 0, .slice none 0 0] 43) := ⟨_, rfl⟩
  have hb0 : Below w.heap.size w W0 := by rw [hW0]; exact (below_a1 w _).alloc (by simp) _
  have HS0 : Hid (TlS w P pb d false (ofCD 4 x) W0) := Lib.hid ⟨hB.ext hb0, by rw [hW0]; exact (Blk.new rfl).alloc _, by rw [hW0]; exact Blk.new (by simp), grown_of hb0, hB.lt, (hv.mono fun g h1 h2 => ⟨⟨h2, h1.1⟩, h1.2⟩).ext hb0, (hx.mono fun g h1 h2 => ⟨⟨h2, h1.1⟩, h1.2⟩).ext hb0, .leaf, Own.nil _ _ _ _⟩
  have HSZ := Lib.hid hs
  have c0 : W0.cell? ⟨w.heap.size, 0, none⟩ = some (.int .i64 4) := HS0.out.cblk.cell 0
  clear hB hv hx hs hb0
  go_enter Tryz.func48, Tryz.ntmps48
  go_upto_region 1 with (fail)
  rw [← hW0]
  clear hW0
  obtain ⟨n1, hn1⟩ : ∃ x, x = gText d.v [kDoc, kUri] := ⟨_, rfl⟩
  have Hn1 := Lib.hid hn1
  clear hn1
  go_wp2_with fail
  have HA1 := Lib.hid (HS0.out.ext (below_a1 W0 (.cells #[strV kDoc, strV kUri] 9)))
  refine (ptext_any pb d (false) (some ⟨W0.heap.size, 0, none⟩) 2 [kDoc, kUri] _ HA1.out.pblk HA1.out.vx (row_blk (Blk.new rfl) rfl) (by decide) HSZ.out).mono ?_
  rw [← Hn1.out]
  rintro e w1 ⟨rfl, hb1, hg1⟩
  have HC1 := Lib.hid (HA1.out.call hb1 hg1)
  clear hb1 hg1 HA1 HS0
  clear c0
  have c7 := HC1.out.cblk.cell 7
  have g7 := HC1.out.cblk.free 7
  unfold cdC at c7
  simp only [List.getElem?_toArray, List.getElem?_cons_zero, List.getElem?_cons_succ] at c7
  have HD1 := Lib.hid (HC1.out.put 7 (.string ⟨(n1.getD []).toArray⟩) (c' := { ofCD 4 x with name := n1.getD [] }) rfl rfl .leaf ⟨rfl, rfl, rfl⟩)
  rw [Bool.false_or] at HD1
  go_upto_region 11 with (fail)
  obtain ⟨W1, hW1⟩ : ∃ W1, W1 = w1.setCell ⟨w.heap.size, 7, none⟩ (.string ⟨(n1.getD []).toArray⟩) := ⟨_, rfl⟩
  rw [← hW1] at HD1 ⊢
  clear hW1 HC1
  clear c7 g7
  have c0 : W1.cell? ⟨w.heap.size, 0, none⟩ = some (.int .i64 4) := HD1.out.cblk.cell 0
  obtain ⟨n2, hn2⟩ : ∃ x, x = gNum d.v [kDoc, kVersion] := ⟨_, rfl⟩
  have Hn2 := Lib.hid hn2
  clear hn2
  obtain ⟨n3, hn3⟩ : ∃ x, x = gText d.v [kDoc, kText] := ⟨_, rfl⟩
  have Hn3 := Lib.hid hn3
  clear hn3
  go_wp2_with fail
  have HA2 := Lib.hid (HD1.out.ext (below_a1 W1 (.cells #[strV kDoc, strV kVersion] 9)))
  refine (pnumber_any pb d (n1.isNone) (some ⟨W1.heap.size, 0, none⟩) 2 [kDoc, kVersion] _ HA2.out.pblk HA2.out.vx (row_blk (Blk.new rfl) rfl) (by decide) HSZ.out).mono ?_
  rw [← Hn2.out]
  rintro e w2 ⟨rfl, hb2, hg2⟩
  have HC2 := Lib.hid (HA2.out.call hb2 hg2)
  clear hb2 hg2 HA2 HD1
  go_wp2_with fail
  have HA3 := Lib.hid (HC2.out.ext (below_a1 w2 (.cells #[strV kDoc, strV kText] 9)))
  refine (ptext_any pb d (n1.isNone || n2.isNone) (some ⟨w2.heap.size, 0, none⟩) 2 [kDoc, kText] _ HA3.out.pblk HA3.out.vx (row_blk (Blk.new rfl) rfl) (by decide) HSZ.out).mono ?_
  rw [← Hn3.out]
  rintro e w3 ⟨rfl, hb3, hg3⟩
  have HC3 := Lib.hid (HA3.out.call hb3 hg3)
  clear hb3 hg3 HA3 HC2
  clear c0
  have c8 := HC3.out.cblk.cell 8
  have g8 := HC3.out.cblk.free 8
  have c9 := HC3.out.cblk.cell 9
  have g9 := HC3.out.cblk.free 9
  unfold cdC at c8 c9
  simp only [List.getElem?_toArray, List.getElem?_cons_zero, List.getElem?_cons_succ] at c8 c9
  have HD2 := Lib.hid ((HC3.out.put 8 (.int .i64 (n2.getD 0)) (c' := { ofCD 4 x with name := n1.getD [], version := n2.getD 0 }) rfl rfl .leaf ⟨rfl, rfl, rfl⟩).put 9 (.string ⟨(n3.getD []).toArray⟩) (c' := { ofCD 4 x with name := n1.getD [], version := n2.getD 0, text := n3.getD [] }) rfl rfl .leaf ⟨rfl, rfl, rfl⟩)
  go_upto_region 23 with (fail)
  clear c8 g8 c9 g9
  go_wp2_with (first | ((with_reducible show wpList _ _ _ (⟨some 80, _, _, _, _, _⟩ :: _) _ _); refine load_call rfl _ rfl w.heap.size rfl ({ ofCD 4 x with name := n1.getD [], version := n2.getD 0, text := n3.getD [] }) HD2.out.cblk ?_) | ((with_reducible show wpList _ _ _ (⟨none, Op.store 43 _ _, _, _, _, _⟩ :: _) _ _); refine store_call rfl _ _ rfl (w.heap.size + 1) ({ ofCD 4 x with name := n1.getD [], version := n2.getD 0, text := n3.getD [] }) zeroCD rfl rfl HD2.out.rblk ?_))
  exact tell_end (g := w.heap.size + 1) rfl (setRow_blk HD2.out.rblk) (HD2.out.fin (by rw [Hn1.out, Hn2.out, Hn3.out, tl_4]; cases gText d.v [kDoc, kUri] <;> cases gNum d.v [kDoc, kVersion] <;> cases gText d.v [kDoc, kText] <;> rfl) (by show (0 : Int) ≤ 4; decide) (fun y hy => by rw [tl_4, ← Hn1.out, ← Hn2.out, ← Hn3.out] at hy; cases n1 <;> cases n2 <;> cases n3 <;> first | (cases hy; done) | (cases hy; rfl)))
set_option maxHeartbeats 4000000 in
set_option maxRecDepth 20000 in
theorem tell_7 (P : Nat → Prop) (pb : Nat) (d x : VD) (w : World) (hB : Blk w pb (prC d false) 96) (hv : ValAt w (fun g => g ≠ pb ∧ P g) d) (hx : ValAt w (fun g => g ≠ pb ∧ P g) x) (hs : sizeV d.v ≤ 1048576) :
    Calls Tryz.prog 48 #[.pointer (some ⟨pb, 0, none⟩), .agg (cdC (ofCD 7 x))] w (TellE w P pb d (tellL 7 x.v d.v)) := by
  obtain ⟨W0, hW0⟩ : ∃ W0, W0 = (w.alloc (.cells (cdC (ofCD 7 x)) 43)).alloc (.cells #[.int .i64 0, .int .i64 0, .bool false, .int .i64 0, .string { data := #[] }, .slice none 0 0, .slice none 0 0, .string { data := #[] }, .int .i64 0, .string { data := #[] }, .slice none 0 0, .int .i64 0, .int .i64 0, .int .i64 0, .bool false, .int .i64 0, .string { data := #[] }, .slice none 0 0, .slice none 0 0] 43) := ⟨_, rfl⟩
  have hb0 : Below w.heap.size w W0 := by rw [hW0]; exact (below_a1 w _).alloc (by simp) _
  have HS0 : Hid (TlS w P pb d false (ofCD 7 x) W0) := Lib.hid ⟨hB.ext hb0, by rw [hW0]; exact (Blk.new rfl).alloc _, by rw [hW0]; exact Blk.new (by simp), grown_of hb0, hB.lt, (hv.mono fun g h1 h2 => ⟨⟨h2, h1.1⟩, h1.2⟩).ext hb0, (hx.mono fun g h1 h2 => ⟨⟨h2, h1.1⟩, h1.2⟩).ext hb0, .leaf, Own.nil _ _ _ _⟩
  have HSZ := Lib.hid hs
  have c0 : W0.cell? ⟨w.heap.size, 0, none⟩ = some (.int .i64 7) := HS0.out.cblk.cell 0
  clear hB hv hx hs hb0
  go_enter Tryz.func48, Tryz.ntmps48
  go_upto_region 1 with (fail)
  rw [← hW0]
  clear hW0
  obtain ⟨n1, hn1⟩ : ∃ x, x = gText d.v [kDoc, kUri] := ⟨_, rfl⟩
  have Hn1 := Lib.hid hn1
  clear hn1
  go_wp2_with fail
  have HA1 := Lib.hid (HS0.out.ext (below_a1 W0 (.cells #[strV kDoc, strV kUri] 9)))
  refine (ptext_any pb d (false) (some ⟨W0.heap.size, 0, none⟩) 2 [kDoc, kUri] _ HA1.out.pblk HA1.out.vx (row_blk (Blk.new rfl) rfl) (by decide) HSZ.out).mono ?_
  rw [← Hn1.out]
  rintro e w1 ⟨rfl, hb1, hg1⟩
  have HC1 := Lib.hid (HA1.out.call hb1 hg1)
  clear hb1 hg1 HA1 HS0
  clear c0
  have c7 := HC1.out.cblk.cell 7
  have g7 := HC1.out.cblk.free 7
  unfold cdC at c7
  simp only [List.getElem?_toArray, List.getElem?_cons_zero, List.getElem?_cons_succ] at c7
  have HD1 := Lib.hid (HC1.out.put 7 (.string ⟨(n1.getD []).toArray⟩) (c' := { ofCD 7 x with name := n1.getD [] }) rfl rfl .leaf ⟨rfl, rfl, rfl⟩)
  rw [Bool.false_or] at HD1
  go_upto_region 11 with (fail)
  obtain ⟨W1, hW1⟩ : ∃ W1, W1 = w1.setCell ⟨w.heap.size, 7, none⟩ (.string ⟨(n1.getD []).toArray⟩) := ⟨_, rfl⟩
  rw [← hW1] at HD1 ⊢
  clear hW1 HC1
  clear c7 g7
  have c0 : W1.cell? ⟨w.heap.size, 0, none⟩ = some (.int .i64 7) := HD1.out.cblk.cell 0
  obtain ⟨n2, hn2⟩ : ∃ x, x = gNum d.v [kPosition, kLine] := ⟨_, rfl⟩
  have Hn2 := Lib.hid hn2
  clear hn2
  obtain ⟨n3, hn3⟩ : ∃ x, x = gNum d.v [kPosition, kChar] := ⟨_, rfl⟩
  have Hn3 := Lib.hid hn3
  clear hn3
  go_wp2_with fail
  have HA2 := Lib.hid (HD1.out.ext (below_a1 W1 (.cells #[strV kPosition] 9)))
  refine (place_any pb d (n1.isNone) (some ⟨W1.heap.size, 0, none⟩) 1 [kPosition] _ HA2.out.pblk HA2.out.vx (row_blk (Blk.new rfl) rfl) (fun _ => by simp [blockOf]; have := HD1.out.pbl; have := HD1.out.grown.size; omega) (by decide) HSZ.out).mono ?_
  simp only [List.cons_append, List.nil_append]
  rw [← Hn2.out, ← Hn3.out]
  rintro e w2 ⟨rfl, hb2, hg2⟩
  have HC2 := Lib.hid (HA2.out.call hb2 hg2)
  clear hb2 hg2 HA2 HD1
  clear c0
  have c11 := HC2.out.cblk.cell 11
  have g11 := HC2.out.cblk.free 11
  have c12 := HC2.out.cblk.cell 12
  have g12 := HC2.out.cblk.free 12
  unfold cdC at c11 c12
  simp only [List.getElem?_toArray, List.getElem?_cons_zero, List.getElem?_cons_succ] at c11 c12
  have HD2 := Lib.hid ((HC2.out.put 11 (.int .i64 (n2.getD 0)) (c' := { ofCD 7 x with name := n1.getD [], pl := n2.getD 0 }) rfl rfl .leaf ⟨rfl, rfl, rfl⟩).put 12 (.int .i64 (n3.getD 0)) (c' := { ofCD 7 x with name := n1.getD [], pl := n2.getD 0, pu := n3.getD 0 }) rfl rfl .leaf ⟨rfl, rfl, rfl⟩)
  go_upto_region 23 with (fail)
  clear c11 g11 c12 g12
  go_wp2_with (first | ((with_reducible show wpList _ _ _ (⟨some 80, _, _, _, _, _⟩ :: _) _ _); refine load_call rfl _ rfl w.heap.size rfl ({ ofCD 7 x with name := n1.getD [], pl := n2.getD 0, pu := n3.getD 0 }) HD2.out.cblk ?_) | ((with_reducible show wpList _ _ _ (⟨none, Op.store 43 _ _, _, _, _, _⟩ :: _) _ _); refine store_call rfl _ _ rfl (w.heap.size + 1) ({ ofCD 7 x with name := n1.getD [], pl := n2.getD 0, pu := n3.getD 0 }) zeroCD rfl rfl HD2.out.rblk ?_))
  exact tell_end (g := w.heap.size + 1) rfl (setRow_blk HD2.out.rblk) (HD2.out.fin (by rw [Hn1.out, Hn2.out, Hn3.out, tl_7]; unfold gPlace; simp only [List.cons_append, List.nil_append]; cases gText d.v [kDoc, kUri] <;> cases gNum d.v [kPosition, kLine] <;> cases gNum d.v [kPosition, kChar] <;> rfl) (by show (0 : Int) ≤ 7; decide) (fun y hy => by rw [tl_7] at hy; unfold gPlace at hy; simp only [List.cons_append, List.nil_append] at hy; rw [← Hn1.out, ← Hn2.out, ← Hn3.out] at hy; cases n1 <;> cases n2 <;> cases n3 <;> first | (cases hy; done) | (cases hy; rfl)))
end Go.Proofs.YthnbeebilomchaaGreatDoor

namespace Go.Proofs.YthnbeebilomchaaGreatDoor
open Go Go.RowKit

set_option maxHeartbeats 4000000 in
set_option maxRecDepth 20000 in
theorem tell_9 (P : Nat → Prop) (pb : Nat) (d x : VD) (w : World) (hB : Blk w pb (prC d false) 96) (hv : ValAt w (fun g => g ≠ pb ∧ P g) d) (hx : ValAt w (fun g => g ≠ pb ∧ P g) x) (hs : sizeV d.v ≤ 1048576) :
    Calls Tryz.prog 48 #[.pointer (some ⟨pb, 0, none⟩), .agg (cdC (ofCD 9 x))] w (TellE w P pb d (tellL 9 x.v d.v)) := by
  obtain ⟨W0, hW0⟩ : ∃ W0, W0 = (w.alloc (.cells (cdC (ofCD 9 x)) 43)).alloc (.cells #[.int .i64 0, .int .i64 0, .bool false, .int .i64 0, .string { data := #[] }, .slice none 0 0, .slice none 0 0, .string { data := #[] }, .int .i64 0, .string { data := #[] }, .slice none 0 0, .int .i64 0, .int .i64 0, .int .i64 0, .bool false, .int .i64 0, .string { data := #[] }, .slice none 0 0, .slice none 0 0] 43) := ⟨_, rfl⟩
  have hb0 : Below w.heap.size w W0 := by rw [hW0]; exact (below_a1 w _).alloc (by simp) _
  have HS0 : Hid (TlS w P pb d false (ofCD 9 x) W0) := Lib.hid ⟨hB.ext hb0, by rw [hW0]; exact (Blk.new rfl).alloc _, by rw [hW0]; exact Blk.new (by simp), grown_of hb0, hB.lt, (hv.mono fun g h1 h2 => ⟨⟨h2, h1.1⟩, h1.2⟩).ext hb0, (hx.mono fun g h1 h2 => ⟨⟨h2, h1.1⟩, h1.2⟩).ext hb0, .leaf, Own.nil _ _ _ _⟩
  have HSZ := Lib.hid hs
  have c0 : W0.cell? ⟨w.heap.size, 0, none⟩ = some (.int .i64 9) := HS0.out.cblk.cell 0
  clear hB hv hx hs hb0
  go_enter Tryz.func48, Tryz.ntmps48
  go_upto_region 1 with (fail)
  rw [← hW0]
  clear hW0
  have p0 := HS0.out.pblk.cell 0
  have p1 := HS0.out.pblk.cell 1
  have p2 := HS0.out.pblk.cell 2
  have p3 := HS0.out.pblk.cell 3
  have p4 := HS0.out.pblk.cell 4
  have p5 := HS0.out.pblk.cell 5
  unfold prC at p0 p1 p2 p3 p4 p5
  simp only [List.getElem?_toArray, List.getElem?_cons_zero, List.getElem?_cons_succ] at p0 p1 p2 p3 p4 p5
  obtain ⟨r, hr⟩ : ∃ r, r = (getV d.v [kId]).getD .null := ⟨_, rfl⟩
  have HR := Lib.hid hr
  clear hr
  go_wp2_with fail
  have HSa := Lib.hid (HS0.out.ext (below_a1 W0 (.cells #[strV kId] 9)))
  refine (get_w (PP w P pb) d (some ⟨W0.heap.size, 0, none⟩) 1 [kId] _ HSa.out.val (Row.new1 rfl rfl rfl) (by decide) HSZ.out).mono ?_
  clear p0 p1 p2 p3 p4 p5 c0
  rintro e w1 ⟨y, b, rfl, -, hy, hvy, hbl⟩
  have HY : Hid (y.v = r) := Lib.hid (by rw [HR.out]; exact hy.out)
  have HS1 := Lib.hid (HSa.out.ext hbl)
  have HVY := Lib.hid (hvy.ext hbl)
  clear hy hvy hbl HSa HS0
  have c13 := HS1.out.cblk.cell 13
  have g13 := HS1.out.cblk.free 13
  have c14 := HS1.out.cblk.cell 14
  have g14 := HS1.out.cblk.free 14
  have c15 := HS1.out.cblk.cell 15
  have g15 := HS1.out.cblk.free 15
  have c16 := HS1.out.cblk.cell 16
  have g16 := HS1.out.cblk.free 16
  have c17 := HS1.out.cblk.cell 17
  have g17 := HS1.out.cblk.free 17
  have c18 := HS1.out.cblk.cell 18
  have g18 := HS1.out.cblk.free 18
  unfold cdC at c13 c14 c15 c16 c17 c18
  simp only [List.getElem?_toArray, List.getElem?_cons_zero, List.getElem?_cons_succ] at c13 c14 c15 c16 c17 c18
  obtain ⟨W2, hW2⟩ : ∃ W2, W2 = ((((((w1.setCell ⟨w.heap.size, 13, none⟩ (.int .i64 y.sort)).setCell ⟨w.heap.size, 14, none⟩ (.bool y.on)).setCell ⟨w.heap.size, 15, none⟩ (.int .i64 y.n)).setCell ⟨w.heap.size, 16, none⟩ (.string ⟨y.text.toArray⟩)).setCell ⟨w.heap.size, 17, none⟩ (.slice y.a y.list.length y.c)).setCell ⟨w.heap.size, 18, none⟩ (.slice y.ka y.keys.length y.kc)) := ⟨_, rfl⟩
  have HS2 : Hid (TlS w P pb d false { ofCD 9 x with other := y } W2) := Lib.hid (by
    rw [hW2]
    exact HS1.out.set (c' := { ofCD 9 x with other := y }) (grown_set (grown_set (grown_set (grown_set (grown_set (grown_set (grown_of (Below.refl w1.heap.size w1) : w1.grownBy w1 (some w.heap.size)) _ _) _ _) _ _) _ _) _ _) _ _) ((((((HS1.out.cblk.set 13 (.int .i64 y.sort)).set 14 (.bool y.on)).set 15 (.int .i64 y.n)).set 16 (.string ⟨y.text.toArray⟩)).set 17 (.slice y.a y.list.length y.c)).set 18 (.slice y.ka y.keys.length y.kc)) rfl HVY.out ⟨rfl, rfl, rfl⟩)
  go_upto_region 8 with (fail)
  rw [← hW2]
  clear hW2 HS1 c13 g13 c14 g14 c15 g15 c16 g16 c17 g17 c18 g18
  have c13 := HS2.out.cblk.cell 13
  have c14 := HS2.out.cblk.cell 14
  have c15 := HS2.out.cblk.cell 15
  have c16 := HS2.out.cblk.cell 16
  have c17 := HS2.out.cblk.cell 17
  have c18 := HS2.out.cblk.cell 18
  unfold cdC at c13 c14 c15 c16 c17 c18
  simp only [List.getElem?_toArray, List.getElem?_cons_zero, List.getElem?_cons_succ] at c13 c14 c15 c16 c17 c18
  have q6 := HS2.out.pblk.free 6
  have h1 := id_any y W2
  rw [VD.val6] at h1
  have H1 := Lib.hid h1
  clear h1
  go_wp2_with fail
  refine H1.out.mono ?_
  rintro e w3 ⟨rfl, hb3⟩
  have HS3 := Lib.hid (HS2.out.ext hb3)
  clear H1 hb3 HS2 q6 c13 c14 c15 c16 c17 c18
  have q6 := HS3.out.pblk.free 6
  have m6 := HS3.out.pblk.cell 6
  unfold prC at m6
  simp only [List.getElem?_toArray, List.getElem?_cons_zero, List.getElem?_cons_succ] at m6
  obtain ⟨b2, hb2⟩ : ∃ b2, b2 = idOk y.v := ⟨_, rfl⟩
  rw [← hb2]
  have HB2 : Hid (b2 = idOk r) := Lib.hid (by rw [hb2, HY.out])
  clear hb2
  obtain ⟨W4, hW4⟩ : ∃ W4, W4 = w3.setCell ⟨pb, 6, none⟩ (.bool (!b2)) := ⟨_, rfl⟩
  have HS4 : Hid (TlS w P pb d (!b2) { ofCD 9 x with other := y } W4) := Lib.hid (by
    rw [hW4]
    exact HS3.out.call (HS3.out.pblk.set 6 _) (grown_set (grown_of (Below.refl w3.heap.size w3)) _ _))
  go_upto_region 9 with (fail)
  rw [← hW4]
  clear hW4 HS3 q6 m6
  go_wp2_with (first | ((with_reducible show wpList _ _ _ (⟨some 33, _, _, _, _, _⟩ :: _) _ _); refine load_call rfl _ rfl w.heap.size rfl ({ ofCD 9 x with other := y }) HS4.out.cblk ?_) | ((with_reducible show wpList _ _ _ (⟨none, Op.store 43 _ _, _, _, _, _⟩ :: _) _ _); refine store_call rfl _ _ rfl (w.heap.size + 1) ({ ofCD 9 x with other := y }) zeroCD rfl rfl HS4.out.rblk ?_))
  exact tell_end (g := w.heap.size + 1) rfl (setRow_blk HS4.out.rblk) (HS4.out.fin (by rw [tl_9, ← HR.out, HB2.out]; cases idOk r <;> rfl) (by show (0 : Int) ≤ 9; decide) (fun z hz => by rw [tl_9, ← HR.out] at hz; cases hi : idOk r with | false => rw [hi] at hz; cases hz | true => rw [hi, if_pos rfl] at hz; cases hz; show CD.k _ = _; simp only [CD.k, ofCD, zeroCD]; rw [HY.out]; rfl))
end Go.Proofs.YthnbeebilomchaaGreatDoor

namespace Go.Proofs.YthnbeebilomchaaGreatDoor
open Go Go.RowKit

theorem Tryz.infoEdit : (Tryz.prog.info? 82).map (fun i => (i.zero, i.size, i.bytes)) = some (some (.agg #[.int .i64 0, .int .i64 0, .int .i64 0, .int .i64 0, .string ByteArray.empty, .bool false]), 6, 56) := by kernel_rfl
theorem tl_5 (x p : V) : tellL 5 x p = (gText p [kDoc, kUri]).bind fun name => (gNum p [kDoc, kVersion]).bind fun n => ((gList p [kChanges]).bind chsL).map fun l => { C.of 5 x with name := name, version := n, changes := l } := rfl
theorem chsL_map : ∀ l : List V, chsL l = if l.any (fun v => (chL v).isNone) = true then none else some (l.map chG)
  | [] => rfl
  | v :: l => by
    rw [chsL, chsL_map l, List.any_cons]
    cases hc : chL v with
    | none => rfl
    | some e =>
      rw [Option.bind_some, Option.isNone_some, Bool.false_or]
      by_cases h : (l.any fun v => (chL v).isNone) = true
      · rw [if_pos h, if_pos h]; rfl
      · rw [if_neg h, if_neg h, List.map_cons, chL_chG hc]; rfl
theorem stepV_size {v y : V} {k : Nm} (h : stepV v k = some y) : sizeV y ≤ sizeV v := by
  unfold stepV at h
  split at h
  · cases hi : indexK k v.keys with
    | none => rw [hi] at h; cases h
    | some i =>
      rw [hi, Option.bind_some] at h
      have := sizesV_mem (List.mem_of_getElem? h)
      obtain ⟨s, o, n, t, l, ks⟩ := v
      simp only [V.list] at this
      rw [show sizeV (V.mk s o n t l ks) = _ from rfl]
      simp only [sizeV]
      omega
  · cases h
theorem getV_size : ∀ (p : List Nm) {v y : V}, getV v p = some y → sizeV y ≤ sizeV v
  | [], v, y, h => by rw [getV_nil] at h; cases h; exact Nat.le_refl _
  | k :: p, v, y, h => by
    rw [getV] at h
    cases hs : stepV v k with
    | none => rw [hs] at h; cases h
    | some z => rw [hs] at h; exact Nat.le_trans (getV_size p h) (stepV_size hs)
theorem getS_size {v : V} {s : Int} {p : List Nm} : sizeV ((getS v s p).getD .null) ≤ sizeV v := by
  have h0 : sizeV V.null ≤ sizeV v := by cases v; simp [V.null, sizeV, sizesV]; omega
  unfold getS
  cases hg : getV v p with
  | none => exact h0
  | some y =>
    rw [Option.bind_some]
    split
    · exact getV_size p hg
    · exact h0
theorem list_size {v x : V} (h : x ∈ v.list) : sizeV x ≤ sizeV v := by
  obtain ⟨s, o, n, t, l, ks⟩ := v
  have := sizesV_mem h
  simp only [V.list] at this
  simp only [sizeV]
  omega
theorem list_len (v : V) : v.list.length ≤ sizeV v := by
  obtain ⟨s, o, n, t, l, ks⟩ := v
  have := sizesV_len l
  simp only [V.list, sizeV]
  omega
theorem tl5_ends {x d : V} {n1 : Option Nm} {n2 : Option Int} {zl : List V} (h1 : n1 = gText d [kDoc, kUri]) (h2 : n2 = gNum d [kDoc, kVersion]) (hz : zl = ((getS d 4 [kChanges]).getD .null).list) :
    (n1.isNone || n2.isNone || (getS d 4 [kChanges]).isNone || zl.any fun q => (chL q).isNone) = (tellL 5 x d).isNone ∧ ∀ y, tellL 5 x d = some y → ({ C.of 5 x with name := n1.getD [], version := n2.getD 0, changes := zl.map chG } : C) = y := by
  rw [tl_5, ← h1, ← h2, gList_S]
  cases n1 with
  | none => exact ⟨rfl, fun y hy => by cases hy⟩
  | some a =>
    cases n2 with
    | none => exact ⟨rfl, fun y hy => by cases hy⟩
    | some b =>
      cases hg : getS d 4 [kChanges] with
      | none => exact ⟨rfl, fun y hy => by cases hy⟩
      | some z =>
        rw [hg] at hz
        simp only [Option.getD_some] at hz
        subst hz
        simp only [Option.map_some, Option.bind_some, chsL_map]
        by_cases ha : (z.list.any fun q => (chL q).isNone) = true
        · rw [if_pos ha, ha]; exact ⟨rfl, fun y hy => by cases hy⟩
        · rw [if_neg ha]
          have hf : (z.list.any fun q => (chL q).isNone) = false := by simpa using ha
          rw [hf]
          exact ⟨rfl, fun y hy => by cases hy; rfl⟩
theorem val_same {w A B : World} {P : Nat → Prop} {pb : Nat} {z : VD} (hA : w.grownBy A (some pb)) (hB : w.grownBy B (some pb)) (h : ValAt A (PP w P pb) z) : ValAt B (PP w P pb) z :=
  h.congr fun g h1 _ => (hB.block g h1.1.1 (by simpa using h1.1.2)).trans (hA.block g h1.1.1 (by simpa using h1.1.2)).symm
/-- what is so within the region -/
structure TlB (w : World) (P : Nat → Prop) (pb : Nat) (d : VD) (c : CD) (W : World) : Prop where
  rblk : Blk W (w.heap.size + 1) (cdC zeroCD) 43
  grown : w.grownBy W (some pb)
  pbl : pb < w.heap.size
  val : ValAt W (PP w P pb) d
  id : ValAt W (PP w P pb) c.id
  other : ValAt W (PP w P pb) c.other
  sz : w.heap.size + 2 ≤ W.heap.size
structure TlI (w : World) (P : Nat → Prop) (pb gx : Nat) (d x : VD) (m : Bool) (c : CD) (D : Nat → Bool) (s : Nat → Value) (W : World) : Prop where
  b : TlB w P pb d c W
  gxl : w.heap.size + 2 ≤ gx
  pblk : Blk W pb (prC d (bif D 4 then m || (chL x.v).isNone else m)) 96
  xblk : Blk W gx #[.int .i64 x.sort, .bool x.on, .int .i64 x.n, .string ⟨x.text.toArray⟩, .slice x.a x.list.length x.c, .slice x.ka x.keys.length x.kc] 36
  xval : ValAt W (PP w P pb) x
  cblk : D 8 = false → Blk W w.heap.size (cdC c) 43
  s66 : D 1 = true → s 66 = .slice c.a c.changes.length c.c
  own0 : D 6 = false → Own W (w.heap.size + 2) 82 6 c.a c.changes.length c.c (c.changes.flatMap E.cells)
  s69 : D 4 = true → s 69 = .agg (edC (chG x.v))
  s70 : D 5 = true → D 6 = false → ∃ g, s 70 = .slice (some ⟨g, 0, none⟩) 1 1 ∧ w.heap.size + 2 ≤ g ∧ Blk W g (edC (chG x.v)) 82
  s71 : D 6 = true → ∃ a k, s 71 = .slice a (c.changes.length + 1) k ∧ Own W (w.heap.size + 2) 82 6 a (c.changes.length + 1) k (c.changes.flatMap E.cells ++ (chG x.v).cells) ∧ (D 8 = true → Blk W w.heap.size (cdC { c with changes := c.changes ++ [chG x.v], a := a, c := k }) 43)
  s72 : D 7 = true → s 72 = .pointer (some ⟨w.heap.size, 10, none⟩)
section
variable {w : World} {P : Nat → Prop} {pb gx : Nat} {d x : VD} {m : Bool} {c : CD} {D : Nat → Bool} {s : Nat → Value} {W W' : World}
theorem TlB.grow (h : TlB w P pb d c W) {row : Option Nat} (hg : W.grownBy W' row) (hr : ∀ k, row = some k → k = pb ∨ w.heap.size ≤ k) (hr2 : row ≠ some (w.heap.size + 1)) : TlB w P pb d c W' := by
  have h1 := h.pbl
  have hz := h.grown.size
  have qv : ∀ {y : VD}, ValAt W (PP w P pb) y → ValAt W' (PP w P pb) y := fun hy => hy.congr fun g h2 h3 => hg.block g h3 (fun e => by have := h2.1.1; rcases hr g e.symm with h4 | h4; exact h2.1.2 h4; omega)
  exact ⟨h.rblk.grown hg (fun e => hr2 e.symm), ⟨hg.os.trans h.grown.os, hg.tape.trans h.grown.tape, hg.output.trans h.grown.output, Nat.le_trans hz hg.size, fun k hk hne => (hg.block k (by omega) (fun e => by rcases hr k e.symm with h4 | h4; exact hne (by rw [h4]); omega)).trans (h.grown.block k hk hne)⟩, h1, qv h.val, qv h.id, qv h.other, Nat.le_trans h.sz hg.size⟩
theorem TlI.start (h : TlS w P pb d m c W) (hgx : w.heap.size + 2 ≤ gx) (hx : Blk W gx #[.int .i64 x.sort, .bool x.on, .int .i64 x.n, .string ⟨x.text.toArray⟩, .slice x.a x.list.length x.c, .slice x.ka x.keys.length x.kc] 36) (hxv : ValAt W (PP w P pb) x) (hs : w.heap.size + 2 ≤ W.heap.size) (d1 : D 1 = false) (d4 : D 4 = false) (d5 : D 5 = false) (d6 : D 6 = false) (d7 : D 7 = false) : TlI w P pb gx d x m c D s W :=
  { b := ⟨h.rblk, h.grown, h.pbl, h.val, h.id, h.other, hs⟩, gxl := hgx, pblk := by rw [d4]; exact h.pblk, xblk := hx, xval := hxv, cblk := fun _ => h.cblk
    s66 := fun e => by rw [d1] at e; cases e
    own0 := fun _ => h.own
    s69 := fun e => by rw [d4] at e; cases e
    s70 := fun e => by rw [d5] at e; cases e
    s71 := fun e => by rw [d6] at e; cases e
    s72 := fun e => by rw [d7] at e; cases e }
theorem TlI.op1 (h : TlI w P pb gx d x m c D s W) : TlI w P pb gx d x m c (updD D 1) (updS s (some 66) (.slice c.a c.changes.length c.c)) W := { h with s66 := fun _ => rfl }
theorem TlI.op7 (h : TlI w P pb gx d x m c D s W) : TlI w P pb gx d x m c (updD D 7) (updS s (some 72) (.pointer (some ⟨w.heap.size, 10, none⟩))) W := { h with s72 := fun _ => rfl }
theorem TlI.op4 (h : TlI w P pb gx d x m c D s W) (n5 : D 5 = false) (n6 : D 6 = false) (hb : Blk W' pb (prC d (m || (chL x.v).isNone)) 96) (hg : W.grownBy W' (some pb)) : TlI w P pb gx d x m c (updD D 4) (updS s (some 69) (.agg (edC (chG x.v)))) W' := by
  have h1 := h.b.pbl
  have h2 := h.gxl
  exact { b := h.b.grow hg (fun k e => .inl (by cases e; rfl)) (by simp; omega), gxl := h.gxl, pblk := by rw [updD_self]; exact hb, xblk := h.xblk.grown hg (by simp; omega), xval := h.xval.congr fun g h2 h3 => hg.block g h3 (by simpa using h2.1.2), cblk := fun e => (h.cblk e).grown hg (by simp; omega)
          s66 := h.s66
          own0 := fun e => (h.own0 e).kept hg (by cases ha : blockOf c.a with
            | none => exact .inl rfl
            | some g => exact .inr (by have := (h.own0 e).base ha; simp; omega))
          s69 := fun _ => rfl
          s70 := fun e => by rw [show updD D 4 5 = D 5 from rfl, n5] at e; cases e
          s71 := fun e => by rw [show updD D 4 6 = D 6 from rfl, n6] at e; cases e
          s72 := h.s72 }
theorem TlI.op5 (h : TlI w P pb gx d x m c D s W) (n6 : D 6 = false) : TlI w P pb gx d x m c (updD D 5) (updS s (some 70) (.slice (some ⟨W.heap.size, 0, none⟩) 1 1)) (W.alloc (.cells (edC (chG x.v)) 82)) := by
  have hg := World.grownBy_alloc W (.cells (edC (chG x.v)) 82) none
  exact { b := h.b.grow hg (fun k e => by cases e) (by simp), gxl := h.gxl, pblk := h.pblk.alloc _, xblk := h.xblk.alloc _, xval := h.xval.ext (below_a1 _ _), cblk := fun e => (h.cblk e).alloc _
          s66 := h.s66, own0 := fun e => (h.own0 e).alloc _, s69 := h.s69
          s70 := fun _ _ => ⟨_, rfl, h.b.sz, Blk.new rfl⟩
          s71 := fun e => by rw [show updD D 5 6 = D 6 from rfl, n6] at e; cases e
          s72 := h.s72 }
theorem TlI.op6 (h : TlI w P pb gx d x m c D s W) (d6 : D 6 = false) (n8 : D 8 = false) {a : Option Addr} {k : Nat} (ho : Own W' (w.heap.size + 2) 82 6 a (c.changes.length + 1) k (c.changes.flatMap E.cells ++ (chG x.v).cells)) (hg : W.grownBy W' (rowOf c.a c.c)) : TlI w P pb gx d x m c (updD D 6) (updS s (some 71) (.slice a (c.changes.length + 1) k)) W' := by
  have h1 := h.b.pbl
  have hr : ∀ k, rowOf c.a c.c = some k → w.heap.size + 2 ≤ k := (h.own0 d6).rowBase (Nat.le_refl _)
  have hlo : ∀ k, k < w.heap.size + 2 → some k ≠ rowOf c.a c.c := fun k hk e => by have := hr k e.symm; omega
  exact { b := h.b.grow hg (fun k e => .inr (by have := hr k e; omega)) (fun e => by have := hr _ e; omega), gxl := h.gxl, pblk := h.pblk.grown hg (hlo _ (by omega)), xblk := h.xblk.grown hg ((h.own0 d6).notBlk h.xblk (by decide)), xval := h.xval.congr fun g h2 h3 => hg.block g h3 (hlo _ (by have := h2.1.1; omega)), cblk := fun e => (h.cblk e).grown hg (hlo _ (by omega))
          s66 := h.s66
          own0 := fun e => by rw [updD_self] at e; cases e
          s69 := h.s69
          s70 := fun _ e => by rw [updD_self] at e; cases e
          s71 := fun _ => ⟨a, k, rfl, ho, fun e => by rw [show updD D 6 8 = D 8 from rfl, n8] at e; cases e⟩
          s72 := h.s72 }
theorem TlI.op8 (h : TlI w P pb gx d x m c D s W) (d8 : D 8 = false) (e6 : D 6 = true) (v : Value) : TlI w P pb gx d x m c (updD D 8) (updS s none v) (W.setCell ⟨w.heap.size, 10, none⟩ (s 71)) := by
  have h1 := h.b.pbl
  have h2 := h.gxl
  have hg : W.grownBy (W.setCell ⟨w.heap.size, 10, none⟩ (s 71)) (some w.heap.size) := grown_set (grown_of (Below.refl W.heap.size W)) _ _
  exact { b := h.b.grow hg (fun k e => .inr (by cases e; exact Nat.le_refl _)) (by simp), gxl := h.gxl, pblk := h.pblk.grown hg (by simp; omega), xblk := h.xblk.grown hg (by simp; omega), xval := h.xval.congr fun g h2 h3 => hg.block g h3 (by have := h2.1.1; simp; omega)
          cblk := fun e => by rw [updD_self] at e; cases e
          s66 := h.s66
          own0 := fun e => by rw [show updD D 8 6 = D 6 from rfl, e6] at e; cases e
          s69 := h.s69
          s70 := fun _ e => by rw [show updD D 8 6 = D 6 from rfl, e6] at e; cases e
          s71 := fun _ => by
            obtain ⟨a, k, q1, q2, -⟩ := h.s71 e6
            refine ⟨a, k, q1, q2.setCell_row (p := ⟨w.heap.size, 10, none⟩) (fun e => by have := q2.rowBase (Nat.le_refl _) _ e; simp at this; omega) _, fun _ => ?_⟩
            rw [q1]
            have := (h.cblk d8).set 10 (.slice a (c.changes.length + 1) k)
            rw [show (cdC c).setIfInBounds 10 (.slice a (c.changes.length + 1) k) = cdC { c with changes := c.changes ++ [chG x.v], a := a, c := k } from by simp [cdC]] at this
            exact this
          s72 := h.s72 }
theorem TlI.ends (h : TlI w P pb gx d x m c D s W) (e4 : D 4 = true) (e6 : D 6 = true) (e8 : D 8 = true) : ∃ a k, TlS w P pb d (m || (chL x.v).isNone) { c with changes := c.changes ++ [chG x.v], a := a, c := k } W := by
  obtain ⟨a, k, -, q2, q3⟩ := h.s71 e6
  refine ⟨a, k, by have := h.pblk; rw [e4] at this; exact this, q3 e8, h.b.rblk, h.b.grown, h.b.pbl, h.b.val, h.b.id, h.b.other, ?_⟩
  show Own W _ _ 6 a (c.changes ++ [chG x.v]).length k ((c.changes ++ [chG x.v]).flatMap E.cells)
  rw [List.length_append, List.flatMap_append, List.flatMap_singleton]
  exact q2
end
set_option maxHeartbeats 4000000 in
set_option maxRecDepth 20000 in
theorem tell_5 (P : Nat → Prop) (pb : Nat) (d x : VD) (w : World) (hB : Blk w pb (prC d false) 96) (hv : ValAt w (fun g => g ≠ pb ∧ P g) d) (hx : ValAt w (fun g => g ≠ pb ∧ P g) x) (hs : sizeV d.v ≤ 1048576) :
    Calls Tryz.prog 48 #[.pointer (some ⟨pb, 0, none⟩), .agg (cdC (ofCD 5 x))] w (TellE w P pb d (tellL 5 x.v d.v)) := by
  obtain ⟨W0, hW0⟩ : ∃ W0, W0 = (w.alloc (.cells (cdC (ofCD 5 x)) 43)).alloc (.cells #[.int .i64 0, .int .i64 0, .bool false, .int .i64 0, .string { data := #[] }, .slice none 0 0, .slice none 0 0, .string { data := #[] }, .int .i64 0, .string { data := #[] }, .slice none 0 0, .int .i64 0, .int .i64 0, .int .i64 0, .bool false, .int .i64 0, .string { data := #[] }, .slice none 0 0, .slice none 0 0] 43) := ⟨_, rfl⟩
  have hb0 : Below w.heap.size w W0 := by rw [hW0]; exact (below_a1 w _).alloc (by simp) _
  have HS0 : Hid (TlS w P pb d false (ofCD 5 x) W0) := Lib.hid ⟨hB.ext hb0, by rw [hW0]; exact (Blk.new rfl).alloc _, by rw [hW0]; exact Blk.new (by simp), grown_of hb0, hB.lt, (hv.mono fun g h1 h2 => ⟨⟨h2, h1.1⟩, h1.2⟩).ext hb0, (hx.mono fun g h1 h2 => ⟨⟨h2, h1.1⟩, h1.2⟩).ext hb0, .leaf, Own.nil _ _ _ _⟩
  have HSZ := Lib.hid hs
  have c0 : W0.cell? ⟨w.heap.size, 0, none⟩ = some (.int .i64 5) := HS0.out.cblk.cell 0
  clear hB hv hx hs hb0
  go_enter Tryz.func48, Tryz.ntmps48
  go_upto_region 1 with (fail)
  rw [← hW0]
  clear hW0
  obtain ⟨n1, hn1⟩ : ∃ x, x = gText d.v [kDoc, kUri] := ⟨_, rfl⟩
  have Hn1 := Lib.hid hn1
  clear hn1
  go_wp2_with fail
  have HA1 := Lib.hid (HS0.out.ext (below_a1 W0 (.cells #[strV kDoc, strV kUri] 9)))
  refine (ptext_any pb d (false) (some ⟨W0.heap.size, 0, none⟩) 2 [kDoc, kUri] _ HA1.out.pblk HA1.out.vx (row_blk (Blk.new rfl) rfl) (by decide) HSZ.out).mono ?_
  rw [← Hn1.out]
  rintro e w1 ⟨rfl, hb1, hg1⟩
  have HC1 := Lib.hid (HA1.out.call hb1 hg1)
  clear hb1 hg1 HA1 HS0
  clear c0
  have c7 := HC1.out.cblk.cell 7
  have g7 := HC1.out.cblk.free 7
  unfold cdC at c7
  simp only [List.getElem?_toArray, List.getElem?_cons_zero, List.getElem?_cons_succ] at c7
  have HD1 := Lib.hid (HC1.out.put 7 (.string ⟨(n1.getD []).toArray⟩) (c' := { ofCD 5 x with name := n1.getD [] }) rfl rfl .leaf ⟨rfl, rfl, rfl⟩)
  rw [Bool.false_or] at HD1
  go_upto_region 11 with (fail)
  obtain ⟨W1, hW1⟩ : ∃ W1, W1 = w1.setCell ⟨w.heap.size, 7, none⟩ (.string ⟨(n1.getD []).toArray⟩) := ⟨_, rfl⟩
  rw [← hW1] at HD1 ⊢
  clear hW1 HC1
  clear c7 g7
  have c0 : W1.cell? ⟨w.heap.size, 0, none⟩ = some (.int .i64 5) := HD1.out.cblk.cell 0
  obtain ⟨n2, hn2⟩ : ∃ x, x = gNum d.v [kDoc, kVersion] := ⟨_, rfl⟩
  have Hn2 := Lib.hid hn2
  clear hn2
  go_wp2_with fail
  have HA2 := Lib.hid (HD1.out.ext (below_a1 W1 (.cells #[strV kDoc, strV kVersion] 9)))
  refine (pnumber_any pb d (n1.isNone) (some ⟨W1.heap.size, 0, none⟩) 2 [kDoc, kVersion] _ HA2.out.pblk HA2.out.vx (row_blk (Blk.new rfl) rfl) (by decide) HSZ.out).mono ?_
  rw [← Hn2.out]
  rintro e w2 ⟨rfl, hb2, hg2⟩
  have HC2 := Lib.hid (HA2.out.call hb2 hg2)
  clear hb2 hg2 HA2 HD1
  clear c0
  have c8 := HC2.out.cblk.cell 8
  have g8 := HC2.out.cblk.free 8
  unfold cdC at c8
  simp only [List.getElem?_toArray, List.getElem?_cons_zero, List.getElem?_cons_succ] at c8
  have HD2 := Lib.hid (HC2.out.put 8 (.int .i64 (n2.getD 0)) (c' := { ofCD 5 x with name := n1.getD [], version := n2.getD 0 }) rfl rfl .leaf ⟨rfl, rfl, rfl⟩)
  go_upto_region 16 with (fail)
  obtain ⟨W2, hW2⟩ : ∃ W2, W2 = w2.setCell ⟨w.heap.size, 8, none⟩ (.int .i64 (n2.getD 0)) := ⟨_, rfl⟩
  rw [← hW2] at HD2 ⊢
  clear hW2 HC2
  clear c8 g8
  go_wp2_with fail
  have HA3 := Lib.hid (HD2.out.ext (below_a1 W2 (.cells #[strV kChanges] 9)))
  refine (sorted_any (PP w P pb) pb d (n1.isNone || n2.isNone) 4 (some ⟨W2.heap.size, 0, none⟩) 1 [kChanges] _ (fun _ h => h.1.2) HA3.out.pblk HA3.out.val (row_blk (Blk.new rfl) rfl) (by decide) HSZ.out).mono ?_
  rintro e w4 ⟨hg4, hb4, z, rfl, hz, hvz⟩
  have HC4 := Lib.hid (HA3.out.call hb4 hg4)
  have HZ := Lib.hid hz
  have HZV := Lib.hid hvz
  have HZL : Hid (z.v.list = z.list.map VD.v) := Lib.hid (by rw [VD.v_eq]; rfl)
  have HZS : Hid (sizeV z.v ≤ 1048576) := Lib.hid (by rw [hz]; exact Nat.le_trans getS_size HSZ.out)
  have HZN : Hid (z.list.length ≤ 1048576) := Lib.hid (by have := list_len z.v; rw [HZL.out, List.length_map] at this; exact Nat.le_trans this HZS.out)
  have hf := (fun w : World => (show Sem.run Tryz.prog (Instr.field 36 (.agg #[.int .i64 z.sort, .bool z.on, .int .i64 z.n, .string ⟨z.text.toArray⟩, .slice z.a z.list.length z.c, .slice z.ka z.keys.length z.kc]) 4) w = .ok (.slice z.a z.list.length z.c) w by kernel_rfl)) w4
  obtain ⟨m0, hm0⟩ : ∃ q, q = (n1.isNone || n2.isNone || (getS d.v 4 [kChanges]).isNone) := ⟨_, rfl⟩
  rw [← hm0] at HC4
  have HM0 := Lib.hid hm0
  clear hg4 hb4 hz hvz HA3 HD2 hm0
  go_wp2
  clear hf
  obtain ⟨za, hza⟩ : ∃ q, q = z.a := ⟨_, rfl⟩
  have HZA := Lib.hid hza
  rw [← hza]
  clear hza
  go_loopw [61] (fun i wr => ∃ k : Nat, k ≤ z.list.length ∧ i = .int .i64 k ∧ Hid (∃ a kk, TlS w P pb d (m0 || (z.list.take k).any fun q => (chL q.v).isNone) { ofCD 5 x with name := n1.getD [], version := n2.getD 0, changes := (z.list.take k).map fun q => chG q.v, a := a, c := kk } wr)) (fun i _ => z.list.length - (intOf i).toNat)
  case atStart => exact ⟨0, Nat.zero_le _, rfl, Lib.hid ⟨none, 0, by rw [List.take_zero]; simp only [List.any_nil, Bool.or_false]; exact HC4.out⟩⟩
  case round =>
    obtain ⟨k, hk, rfl, hL⟩ := hrel
    obtain ⟨ca, cc, hL⟩ := hL.out
    have HL := Lib.hid hL
    clear hL
    by_cases hlt : k < z.list.length
    · obtain ⟨y, hy⟩ := get_some hlt
      have HX := Lib.hid hy
      have HZr := Lib.hid (val_same HC4.out.grown HL.out.grown HZV.out)
      have HXV := Lib.hid (HZr.out.kid y (List.mem_of_getElem? hy))
      have HYS : Hid (sizeV y.v ≤ 1048576) := Lib.hid (Nat.le_trans (list_size (v := z.v) (by rw [HZL.out]; exact List.mem_map_of_mem (List.mem_of_getElem? hy))) HZS.out)
      obtain ⟨b, off, hab, q0, q1, q2, q3, q4, q5⟩ := val_at HZr.out.row hy
      obtain rfl : za = some ⟨b, off, none⟩ := HZA.out.trans hab
      clear hy hab
      unfold strV at q3
      obtain ⟨cd, hcd⟩ : ∃ cd : CD, cd = { ofCD 5 x with name := n1.getD [], version := n2.getD 0, changes := (z.list.take k).map fun q => chG q.v, a := ca, c := cc } := ⟨_, rfl⟩
      obtain ⟨mm, hmm⟩ : ∃ mm, mm = (m0 || (z.list.take k).any fun q => (chL q.v).isNone) := ⟨_, rfl⟩
      rw [← hcd, ← hmm] at HL
      have HCD := Lib.hid hcd
      have HMM := Lib.hid hmm
      have HCL : Hid (cd.changes.length ≤ 1048576) := Lib.hid (by rw [hcd]; simp; have := HZN.out; omega)
      clear hcd hmm
      obtain ⟨gx, hgx⟩ : ∃ gx, gx = wr.heap.size := ⟨_, rfl⟩
      obtain ⟨W5, hW5⟩ : ∃ W5, W5 = wr.alloc (.cells #[.int .i64 y.sort, .bool y.on, .int .i64 y.n, .string ⟨y.text.toArray⟩, .slice y.a y.list.length y.c, .slice y.ka y.keys.length y.kc] 36) := ⟨_, rfl⟩
      have hgx2 : w.heap.size + 2 ≤ gx := by have := HL.out.rblk.lt; omega
      have HX1 : Hid (Blk W5.drew gx #[.int .i64 y.sort, .bool y.on, .int .i64 y.n, .string ⟨y.text.toArray⟩, .slice y.a y.list.length y.c, .slice y.ka y.keys.length y.kc] 36) := Lib.hid (by rw [hW5, hgx]; exact Blk.new rfl)
      have HS1 : Hid (TlS w P pb d mm cd W5.drew) := Lib.hid (by rw [hW5]; exact HL.out.ext (below_a1 _ _).drew)
      have HXV1 : Hid (ValAt W5.drew (PP w P pb) y) := Lib.hid (by rw [hW5]; exact HXV.out.ext (below_a1 _ _).drew)
      have hsz1 : w.heap.size + 2 ≤ W5.drew.heap.size := by have := HX1.out.lt; omega
      have hlz : (z.list.length : Int) ≤ 1048576 := by have := HZN.out; omega
      clear HZr
      go_upto_region 19 with (fail)
      rw [← hgx, ← hW5]
      clear hW5 hgx q0 q1 q2 q3 q4 q5 hlz
      refine wp_region_held_drew (S := (fun w' => Blk w' gx #[.int .i64 y.sort, .bool y.on, .int .i64 y.n, .string ⟨y.text.toArray⟩, .slice y.a y.list.length y.c, .slice y.ka y.keys.length y.kc] 36)) (by kernel_rfl) ?_ (fun hHeld => ?_)
      · exact HX1.out
      refine wpAnyH_take (i := 0) (oi := ⟨some 65, _, _, _, _, _⟩) (v := ?_) rfl (by kernel_rfl) (by kernel_rfl) (by kernel_rfl) (fun _ _ _ h => h) (Or.inl ⟨by rfl, ?_⟩) (by assumption) ?_; rotate_left; focus (intro w hSw; (try dsimp only at hSw); first | (go_simp; done) | (go_simp; with_reducible rfl))
      try simp only [Act.put]
      try simp only [List.setIfInBounds_toArray]
      try simp only [List.set_cons_succ, List.set_cons_zero]
      refine wpAnyH_take (i := 2) (oi := ⟨some 67, _, _, _, _, _⟩) (v := ?_) rfl (by kernel_rfl) (by kernel_rfl) (by kernel_rfl) (fun _ _ _ h => h) (Or.inl ⟨by rfl, ?_⟩) (by assumption) ?_; rotate_left; focus (intro w hSw; (try dsimp only at hSw); first | (go_simp; done) | (go_simp; with_reducible rfl))
      try simp only [Act.put]
      try simp only [List.setIfInBounds_toArray]
      try simp only [List.set_cons_succ, List.set_cons_zero]
      refine wpAnyH_take (i := 3) (oi := ⟨some 68, _, _, _, _, _⟩) (v := ?_) rfl (by kernel_rfl) (by kernel_rfl) (by kernel_rfl) (fun _ _ _ h => h) (Or.inl ⟨by rfl, ?_⟩) (by assumption) ?_; rotate_left; focus (intro w hSw; (try dsimp only at hSw); obtain ⟨a0, a1, a2, a3, a4, a5⟩ := Blk.sixT hSw; first | (go_simp; done) | (go_simp; with_reducible rfl))
      try simp only [Act.put]
      try simp only [List.setIfInBounds_toArray]
      try simp only [List.set_cons_succ, List.set_cons_zero]
      refine wpAnyH_invF [66, 69, 70, 71, 72] [0, 2, 3] (TlI w P pb gx d y mm cd) (by kernel_rfl) (by rfl) (by kernel_rfl) (by kernel_rfl) (Nat.le_of_ble_eq_true (by kernel_rfl)) ?_ ?_ ?_ ?_
      · intro D s W hJ
        exact hJ.xblk
      · intro s
        exact TlI.start HS1.out hgx2 HX1.out HXV1.out hsz1 rfl rfl rfl rfl rfl
      · refine InvAllF.skip (by kernel_rfl) ?_
        refine InvAllF.cons (o := ⟨some 66, _, _, _, _, _⟩) (by kernel_rfl) (fun D s W hD hdep hno hJ K hK => ?_) ?_
        · have n6 : D 6 = false := hno 6 (by kernel_rfl)
          have n7 : D 7 = false := hno 7 (by kernel_rfl)
          have n8 : D 8 = false := hno 8 (by kernel_rfl)
          clear hdep hno
          simp only [setAll, List.foldl_cons, List.foldl_nil, Act.put, List.setIfInBounds_toArray, List.set_cons_succ, List.set_cons_zero]
          have b10 := (hJ.cblk n8).cell 10
          unfold cdC at b10
          simp only [List.getElem?_toArray, List.getElem?_cons_zero, List.getElem?_cons_succ] at b10
          have HJ := Lib.hid hJ
          clear hJ
          go_simp
          refine hK.out _ _ _ ?_ HJ.out.op1
          simp only [setAll, List.foldl_cons, List.foldl_nil, Act.put, List.setIfInBounds_toArray, List.set_cons_succ, List.set_cons_zero]
        refine InvAllF.skip (by kernel_rfl) ?_
        refine InvAllF.skip (by kernel_rfl) ?_
        refine InvAllF.cons (o := ⟨some 69, _, _, _, _, _⟩) (by kernel_rfl) (fun D s W hD hdep hno hJ K hK => ?_) ?_
        · have n5 : D 5 = false := hno 5 (by kernel_rfl)
          have n6 : D 6 = false := hno 6 (by kernel_rfl)
          have n7 : D 7 = false := hno 7 (by kernel_rfl)
          have n8 : D 8 = false := hno 8 (by kernel_rfl)
          clear hdep hno
          simp only [setAll, List.foldl_cons, List.foldl_nil, Act.put, List.setIfInBounds_toArray, List.set_cons_succ, List.set_cons_zero]
          have hbk := hJ.pblk
          rw [hD] at hbk
          have h1 := change_any pb d mm y W hbk (hJ.xval.mono fun _ _ _ => trivial) HYS.out
          rw [VD.val6] at h1
          have H1 := Lib.hid h1
          clear h1 hbk
          have HJ := Lib.hid hJ
          clear hJ
          go_simp
          refine H1.out.mono ?_
          rintro e w2 ⟨rfl, hb2, hg2⟩
          refine hK.out _ _ _ ?_ (HJ.out.op4 n5 n6 hb2 hg2)
          simp only [setAll, List.foldl_cons, List.foldl_nil, Act.put, List.setIfInBounds_toArray, List.set_cons_succ, List.set_cons_zero]
        refine InvAllF.cons (o := ⟨some 70, _, _, _, _, _⟩) (by kernel_rfl) (fun D s W hD hdep hno hJ K hK => ?_) ?_
        · have e4 : D 4 = true := hdep 4 (by kernel_rfl)
          have n6 : D 6 = false := hno 6 (by kernel_rfl)
          have n7 : D 7 = false := hno 7 (by kernel_rfl)
          have n8 : D 8 = false := hno 8 (by kernel_rfl)
          clear hdep hno
          simp only [setAll, List.foldl_cons, List.foldl_nil, Act.put, List.setIfInBounds_toArray, List.set_cons_succ, List.set_cons_zero]
          have HQ : Hid (s 69 = .agg #[.int .i64 (chG y.v).fl, .int .i64 (chG y.v).fu, .int .i64 (chG y.v).tl, .int .i64 (chG y.v).tu, .string ⟨(chG y.v).text.toArray⟩, .bool (chG y.v).whole]) := Lib.hid (hJ.s69 e4)
          have HJ := Lib.hid hJ
          clear hJ
          simp only [HQ.out]
          go_simp
          refine hK.out _ _ _ ?_ (HJ.out.op5 n6)
          simp only [HQ.out, setAll, List.foldl_cons, List.foldl_nil, Act.put, List.setIfInBounds_toArray, List.set_cons_succ, List.set_cons_zero]
        refine InvAllF.cons (o := ⟨some 71, _, _, _, _, _⟩) (by kernel_rfl) (fun D s W hD hdep hno hJ K hK => ?_) ?_
        · have e1 : D 1 = true := hdep 1 (by kernel_rfl)
          have e4 : D 4 = true := hdep 4 (by kernel_rfl)
          have e5 : D 5 = true := hdep 5 (by kernel_rfl)
          have n7 : D 7 = false := hno 7 (by kernel_rfl)
          have n8 : D 8 = false := hno 8 (by kernel_rfl)
          clear hdep hno
          simp only [setAll, List.foldl_cons, List.foldl_nil, Act.put, List.setIfInBounds_toArray, List.set_cons_succ, List.set_cons_zero]
          have HS1x := Lib.hid (hJ.s66 e1)
          obtain ⟨g, h70, hg70, hb70⟩ := hJ.s70 e5 hD
          have HS2x := Lib.hid h70
          have HG := Lib.hid hb70
          clear h70 hb70 hg70
          have HJ := Lib.hid hJ
          clear hJ
          simp only [HS1x.out, HS2x.out]
          refine step_append_Own (act := ⟨_, []⟩) rfl (.tmp 66) (.tmp 70) 41 rfl (w.heap.size + 2) 82 _ 6 56 Tryz.underlying41 Tryz.infoEdit rfl (by decide) cd.a cd.changes.length cd.c _ (by simp [go_sem]) (HJ.out.own0 hD) (some ⟨g, 0, none⟩) 1 1 (chG y.v).cells (by simp [go_sem]) (row_blk HG.out rfl) (by intro u hu; simp [E.cells] at hu; rcases hu with rfl | rfl | rfl | rfl | rfl | rfl <;> rfl) (by have := HCL.out; unfold maxLen; omega) (by have := HCL.out; omega) HJ.out.b.sz ?_
          intro a5 c5 w5 ho5 hg5 hb5
          simp only [Act.put, List.setIfInBounds_toArray, List.set_cons_succ, List.set_cons_zero]
          refine hK.out _ _ _ ?_ (HJ.out.op6 hD n8 ho5 hg5)
          simp only [HS1x.out, HS2x.out, setAll, List.foldl_cons, List.foldl_nil, Act.put, List.setIfInBounds_toArray, List.set_cons_succ, List.set_cons_zero]
        refine InvAllF.cons (o := ⟨some 72, _, _, _, _, _⟩) (by kernel_rfl) (fun D s W hD hdep hno hJ K hK => ?_) ?_
        · have e1 : D 1 = true := hdep 1 (by kernel_rfl)
          have e4 : D 4 = true := hdep 4 (by kernel_rfl)
          have e5 : D 5 = true := hdep 5 (by kernel_rfl)
          have e6 : D 6 = true := hdep 6 (by kernel_rfl)
          have n8 : D 8 = false := hno 8 (by kernel_rfl)
          clear hdep hno
          simp only [setAll, List.foldl_cons, List.foldl_nil, Act.put, List.setIfInBounds_toArray, List.set_cons_succ, List.set_cons_zero]
          have HJ := Lib.hid hJ
          clear hJ
          go_simp
          refine hK.out _ _ _ ?_ HJ.out.op7
          simp only [setAll, List.foldl_cons, List.foldl_nil, Act.put, List.setIfInBounds_toArray, List.set_cons_succ, List.set_cons_zero]
        refine InvAllF.cons (o := ⟨none, _, _, _, _, _⟩) (by kernel_rfl) (fun D s W hD hdep hno hJ K hK => ?_) ?_
        · have e1 : D 1 = true := hdep 1 (by kernel_rfl)
          have e4 : D 4 = true := hdep 4 (by kernel_rfl)
          have e5 : D 5 = true := hdep 5 (by kernel_rfl)
          have e6 : D 6 = true := hdep 6 (by kernel_rfl)
          have e7 : D 7 = true := hdep 7 (by kernel_rfl)
          clear hdep hno
          simp only [setAll, List.foldl_cons, List.foldl_nil, Act.put, List.setIfInBounds_toArray, List.set_cons_succ, List.set_cons_zero]
          obtain ⟨a2, c2, q71, -⟩ := hJ.s71 e6
          have HQ := Lib.hid q71
          have HQ2 := Lib.hid (hJ.s72 e7)
          have b10 := (hJ.cblk hD).cell 10
          have f10 := (hJ.cblk hD).free 10
          unfold cdC at b10
          simp only [List.getElem?_toArray, List.getElem?_cons_zero, List.getElem?_cons_succ] at b10
          clear q71
          have HJ := Lib.hid hJ
          clear hJ
          simp only [HQ.out, HQ2.out]
          go_simp
          refine hK.out _ undef _ ?_ (HQ.out ▸ (HJ.out.op8 hD e6 _))
          simp only [HQ.out, HQ2.out, setAll, List.foldl_cons, List.foldl_nil, Act.put, List.setIfInBounds_toArray, List.set_cons_succ, List.set_cons_zero]
        exact InvAllF.nil
      · intro D s W hD hJ
        have HE := Lib.hid (hJ.ends (hD 4 (by decide)) (hD 6 (by decide)) (hD 8 (by decide)))
        clear hJ hD
        simp only [setAll, List.foldl_cons, List.foldl_nil, Act.put, List.setIfInBounds_toArray, List.set_cons_succ, List.set_cons_zero]
        have hlz := HZN.out
        go_wp2
        go_roundw
        case rel => exact ⟨k + 1, by omega, by go_num, Lib.hid (by
          obtain ⟨a, kk, hE⟩ := HE.out
          refine ⟨a, kk, ?_⟩
          rw [HMM.out, HCD.out] at hE
          rw [take_snoc1 HX.out, List.map_append, List.any_append, List.map_singleton]
          simp only [List.any_cons, List.any_nil, Bool.or_false]
          rw [← Bool.or_assoc]
          exact hE)⟩
        case measure => simp [intOf]; omega
    · have hkz : k = z.list.length := by omega
      obtain ⟨cd, hcd⟩ : ∃ cd : CD, cd = { ofCD 5 x with name := n1.getD [], version := n2.getD 0, changes := (z.list.take k).map fun q => chG q.v, a := ca, c := cc } := ⟨_, rfl⟩
      rw [← hcd] at HL
      have HCD := Lib.hid hcd
      have HKZ := Lib.hid hkz
      clear hcd hkz
      go_wp2_with (first | ((with_reducible show wpList _ _ _ (⟨some 80, _, _, _, _, _⟩ :: _) _ _); refine load_call rfl _ rfl w.heap.size rfl (cd) HL.out.cblk ?_) | ((with_reducible show wpList _ _ _ (⟨none, Op.store 43 _ _, _, _, _, _⟩ :: _) _ _); refine store_call rfl _ _ rfl (w.heap.size + 1) (cd) zeroCD rfl rfl HL.out.rblk ?_))
      exact tell_end (g := w.heap.size + 1) rfl (setRow_blk HL.out.rblk) (HL.out.fin (by rw [HM0.out, HKZ.out, List.take_length, ← (tl5_ends Hn1.out Hn2.out rfl).1, ← HZ.out, HZL.out, List.any_map]; rfl) (by rw [HCD.out]; show (0 : Int) ≤ 5; decide) (fun q hq => by rw [← (tl5_ends Hn1.out Hn2.out rfl).2 q hq, HCD.out, HKZ.out, List.take_length, ← HZ.out, HZL.out, List.map_map]; rfl))
end Go.Proofs.YthnbeebilomchaaGreatDoor
