/- What a round of the range over kids holds while it adds a kid to what is still to come. -/
import Derived.Test.YtnepamdmjppglaaPartV
import Derived.Test.YtnepamdmjppglaaTodo
namespace Go.Proofs.Ytnepamdmjppglaa
open Go Go.RowKit

theorem keeps_ext {B : Nat} {W W' : World} (h : Below W.heap.size W W') : KeepsFrom B W W' := ⟨h.size, fun k _ _ hk _ => (h.block k (Array.getElem?_eq_some_iff.1 hk).1).trans hk⟩
theorem keeps_cells {B : Nat} {W W' : World} {row : Option Nat} (hg : W.grownBy W' row) (hr : ∀ r, row = some r → ∀ o : Obj, W.heap[r]? = some o → o.isCells = true) : KeepsFrom B W W' :=
  ⟨hg.size, fun k o _ hk hc => (hg.block k (Array.getElem?_eq_some_iff.1 hk).1 (fun e => by rw [hr k e.symm o hk] at hc; cases hc)).trans hk⟩
theorem keeps_set {B : Nat} {W : World} {p : Addr} {c : Array Value} {e : TypeId} (h : Blk W p.block c e) (u : Value) : KeepsFrom B W (W.setCell p u) :=
  ⟨by simp [World.setCell], fun k o _ hk hc => (Below.heap_setCell W p u k (fun e => by subst e; unfold Blk at h; rw [h] at hk; cases hk; cases hc)).trans hk⟩
theorem own_blk {w : World} {base : Nat} {e : TypeId} {sz : Nat} {g off n cap : Nat} {xs : List Value} (h : Own w base e sz (some ⟨g, off, none⟩) n cap xs) (hc : 0 < cap) : ∃ c, Blk w g c e := by
  rcases h.2 with ⟨_, q, _⟩ | ⟨g', off', cur', h1, _, q3, _⟩
  · omega
  · cases h1; exact ⟨cur', q3⟩

structure PG (w W0 W : World) (Bk tb kb Bs : Nat) (vt : Value) (kc bc : Array Value) (rs : List Nat) (out : List PartD) (ao : Option Addr) (co : Nat) (av : Option Addr) (n cv : Nat) (xs : List Value) : Prop where
  bt : Blk W tb #[vt] 22
  htb : w.heap.size ≤ tb
  o : Own W w.heap.size 24 5 ao out.length co (out.flatMap PartD.cells)
  t : Own W w.heap.size 24 5 av n cv xs
  ap : 0 < co → 0 < cv → blockOf ao ≠ blockOf av
  mks : Marks w.heap.size rs W
  k : Blk W kb kc 24
  kt : some kb ≠ rowOf av cv
  bs : Blk W Bs bc 22
  bne : Bs ≠ tb
  bel : Below w.heap.size w W
  kf : KeepsFrom Bk W0 W
  kp : Below w.heap.size W0 W
section
variable {w W0 W W' : World} {Bk tb kb Bs : Nat} {vt : Value} {kc bc : Array Value} {rs : List Nat} {out : List PartD} {ao : Option Addr} {co : Nat} {av : Option Addr} {n cv : Nat} {xs : List Value}
theorem PG.ext (h : PG w W0 W Bk tb kb Bs vt kc bc rs out ao co av n cv xs) (hb : Below W.heap.size W W') : PG w W0 W' Bk tb kb Bs vt kc bc rs out ao co av n cv xs :=
  ⟨h.bt.ext hb, h.htb, h.o.ext hb, h.t.ext hb, h.ap, h.mks.ext hb, h.k.ext hb, h.kt, h.bs.ext hb, h.bne, h.bel.trans (hb.mono h.bel.size), h.kf.trans (keeps_ext hb), h.kp.trans (hb.mono h.bel.size)⟩
theorem PG.tbRow (h : PG w W0 W Bk tb kb Bs vt kc bc rs out ao co av n cv xs) : some tb ≠ rowOf av cv := fun e => own_ne h.t h.bt ne_types e.symm
theorem PG.bsRow (h : PG w W0 W Bk tb kb Bs vt kc bc rs out ao co av n cv xs) : some Bs ≠ rowOf av cv := fun e => own_ne h.t h.bs ne_types e.symm
theorem PG.mkRow (h : PG w W0 W Bk tb kb Bs vt kc bc rs out ao co av n cv xs) : ∀ r ∈ rs, some r ≠ rowOf av cv := fun r hr e => by have := own_cells h.t e.symm (h.mks.all r hr).2; cases this
theorem PG.kTb (h : PG w W0 W Bk tb kb Bs vt kc bc rs out ao co av n cv xs) : kb ≠ tb := fun e => by
  subst e
  have h1 := h.k
  have h2 := h.bt
  unfold Blk at h1 h2
  rw [h1] at h2
  simp only [Option.some.injEq, Obj.cells.injEq] at h2
  exact ne_types h2.2.1

theorem PG.grow {a5 : Option Addr} {c5 m : Nat} {ys : List Value} (h : PG w W0 W Bk tb kb Bs vt kc bc rs out ao co av n cv xs) (hown : Own W' w.heap.size 24 5 a5 m c5 ys) (hg : W.grownBy W' (rowOf av cv)) (hbk : rowOf a5 c5 = rowOf av cv ∨ rowOf a5 c5 = some W.heap.size) :
    PG w W0 W' Bk tb kb Bs vt kc bc rs out ao co a5 m c5 ys := by
  refine ⟨h.bt.grown hg h.tbRow, h.htb, h.o.keptApart h.ap hg, hown, fun h1 h2 e => ?_, h.mks.grown hg h.mkRow, h.k.grown hg h.kt, ?_, h.bs.grown hg h.bsRow, h.bne, h.bel.grown hg h.bel.size (h.t.rowBase (Nat.le_refl _)),
    h.kf.trans (keeps_cells hg fun r hr o ho => own_cells h.t hr ho), h.kp.grown hg h.bel.size (h.t.rowBase (Nat.le_refl _))⟩
  · rw [← rowOf_pos h1, ← rowOf_pos (a := a5) h2] at e
    rcases hbk with q | q
    · rcases Nat.eq_zero_or_pos cv with hc | hc
      · rw [q] at e; unfold rowOf at e; rw [if_neg (by omega), if_pos hc] at e
        obtain ⟨g, off, rfl⟩ := h.o.addr h1
        simp [blockOf] at e
      · rw [q, rowOf_pos h1, rowOf_pos hc] at e
        exact h.ap h1 hc e
    · rw [q, rowOf_pos h1] at e
      have := (h.o.size h1 e).2
      omega
  · rcases hbk with q | q
    · rw [q]; exact h.kt
    · rw [q]; intro e; have := h.k.lt; injection e; omega
theorem PG.setTb (h : PG w W0 W Bk tb kb Bs vt kc bc rs out ao co av n cv xs) (v : Value) : PG w W0 (W.setCell ⟨tb, 0, none⟩ v) Bk tb kb Bs v kc bc rs out ao co av n cv xs := by
  refine ⟨by simpa using h.bt.set 0 v, h.htb, h.o.setCell_row (p := ⟨tb, 0, none⟩) (own_ne h.o h.bt ne_types) _, h.t.setCell_row (p := ⟨tb, 0, none⟩) (own_ne h.t h.bt ne_types) _, h.ap, h.mks.setCell (p := ⟨tb, 0, none⟩) h.bt v, h.k.other (p := ⟨tb, 0, none⟩) h.kTb v, h.kt, h.bs.other (p := ⟨tb, 0, none⟩) h.bne v, h.bne,
    h.bel.setCell (p := ⟨tb, 0, none⟩) h.htb v, h.kf.trans (keeps_set (p := ⟨tb, 0, none⟩) h.bt v), h.kp.setCell (p := ⟨tb, 0, none⟩) h.htb v⟩
theorem PG.put {g off : Nat} (h : PG w W0 W Bk tb kb Bs vt kc bc rs out ao co (some ⟨g, off, none⟩) n cv xs) {j : Nat} (hj : j < n * 5) (u : Value) : PG w W0 (W.setCell ⟨g, off + j, none⟩ u) Bk tb kb Bs vt kc bc rs out ao co (some ⟨g, off, none⟩) n cv (xs.set j u) := by
  obtain ⟨h1, h2, h3, h4⟩ := h.t.store hj u
  have hc : 0 < cv := by have := h.t.le; omega
  have hr : rowOf (some ⟨g, off, none⟩) cv = some g := by rw [rowOf_pos hc]; rfl
  obtain ⟨c, hb⟩ := own_blk h.t hc
  have htb := h.tbRow
  have hbs := h.bsRow
  have hkt := h.kt
  rw [hr] at htb hbs hkt
  refine ⟨h.bt.other (p := ⟨g, off + j, none⟩) (fun e => htb (by rw [e])) u, h.htb, h.o.setCell_row (p := ⟨g, off + j, none⟩) (fun e => ?_) u, h2, h.ap, h.mks.setCell (p := ⟨g, off + j, none⟩) hb u, h.k.other (p := ⟨g, off + j, none⟩) (fun e => hkt (by rw [e])) u, h.kt, h.bs.other (p := ⟨g, off + j, none⟩) (fun e => hbs (by rw [e])) u, h.bne,
    h.bel.setCell (p := ⟨g, off + j, none⟩) h3 u, h.kf.trans (keeps_set (p := ⟨g, off + j, none⟩) hb u), h.kp.setCell (p := ⟨g, off + j, none⟩) h3 u⟩
  rcases Nat.eq_zero_or_pos co with q | q
  · unfold rowOf at e; rw [if_pos q] at e; cases e
  · rw [rowOf_pos q] at e
    exact h.ap q hc (by rw [e]; rfl)
/-- a whole part put at the row's end -/
def put5 (W : World) (g o : Nat) (x : PartD) : World := ((((W.setCell ⟨g, o, none⟩ (.string ⟨x.kind.toArray⟩)).setCell ⟨g, o + 1, none⟩ (.string ⟨x.text.toArray⟩)).setCell ⟨g, o + 2, none⟩ (.int .i64 x.lo)).setCell ⟨g, o + 3, none⟩ (.int .i64 x.hi)).setCell ⟨g, o + 4, none⟩ (.slice x.a x.kids.length x.c)
theorem PG.put5 {g off : Nat} {td : List PartD} {z0 z1 z2 z3 z4 : Value} {x : PartD} (h : PG w W0 W Bk tb kb Bs vt kc bc rs out ao co (some ⟨g, off, none⟩) (td.length + 1) cv (td.flatMap PartD.cells ++ [z0, z1, z2, z3, z4])) :
    PG w W0 (put5 W g (off + td.length * 5) x) Bk tb kb Bs vt kc bc rs out ao co (some ⟨g, off, none⟩) (td.length + 1) cv ((td ++ [x]).flatMap PartD.cells) := by
  have h1 := ((((h.put (j := td.length * 5) (by omega) (.string ⟨x.kind.toArray⟩)).put (j := td.length * 5 + 1) (by omega) (.string ⟨x.text.toArray⟩)).put (j := td.length * 5 + 2) (by omega) (.int .i64 x.lo)).put (j := td.length * 5 + 3) (by omega) (.int .i64 x.hi)).put (j := td.length * 5 + 4) (by omega) (.slice x.a x.kids.length x.c)
  have e : (((((td.flatMap PartD.cells ++ [z0, z1, z2, z3, z4]).set (td.length * 5) (.string ⟨x.kind.toArray⟩)).set (td.length * 5 + 1) (.string ⟨x.text.toArray⟩)).set (td.length * 5 + 2) (.int .i64 x.lo)).set (td.length * 5 + 3) (.int .i64 x.hi)).set (td.length * 5 + 4) (.slice x.a x.kids.length x.c) = (td ++ [x]).flatMap PartD.cells := by
    rw [cells_app, show x.cells = [.string ⟨x.kind.toArray⟩, .string ⟨x.text.toArray⟩, .int .i64 x.lo, .int .i64 x.hi, .slice x.a x.kids.length x.c] from by cases x; rfl, ← cells_len td]
    simp
  rw [e] at h1
  simpa [Go.Proofs.Ytnepamdmjppglaa.put5, Nat.add_assoc] using h1
theorem PG.slots {g off : Nat} {td : List PartD} {z0 z1 z2 z3 z4 : Value} (h : PG w W0 W Bk tb kb Bs vt kc bc rs out ao co (some ⟨g, off, none⟩) (td.length + 1) cv (td.flatMap PartD.cells ++ [z0, z1, z2, z3, z4])) :
    (W.cell? ⟨g, off + td.length * 5, none⟩ = some z0 ∧ W.cell? ⟨g, off + td.length * 5 + 1, none⟩ = some z1 ∧ W.cell? ⟨g, off + td.length * 5 + 2, none⟩ = some z2 ∧ W.cell? ⟨g, off + td.length * 5 + 3, none⟩ = some z3 ∧ W.cell? ⟨g, off + td.length * 5 + 4, none⟩ = some z4) ∧
    (W.frozen? ⟨g, off + td.length * 5, none⟩ = false ∧ W.frozen? ⟨g, off + td.length * 5 + 1, none⟩ = false ∧ W.frozen? ⟨g, off + td.length * 5 + 2, none⟩ = false ∧ W.frozen? ⟨g, off + td.length * 5 + 3, none⟩ = false ∧ W.frozen? ⟨g, off + td.length * 5 + 4, none⟩ = false) ∧ g ≠ tb := by
  have hl := cells_len td
  obtain ⟨b, o, he, hc⟩ := h.t.row.2 (by omega)
  cases he
  have hc' : ∀ i, i < 5 → W.cell? ⟨g, off + td.length * 5 + i, none⟩ = [z0, z1, z2, z3, z4][i]? := fun i hi => by
    rw [Nat.add_assoc, hc (td.length * 5 + i) (by omega), List.getElem?_append_right (by omega), hl]
    congr 1
    omega
  have hf : ∀ i, i < 5 → W.frozen? ⟨g, off + td.length * 5 + i, none⟩ = false := fun i hi => by
    rw [Nat.add_assoc]; exact (h.t.store (j := td.length * 5 + i) (by omega) (.int .i64 0)).1
  refine ⟨⟨hc' 0 (by omega), hc' 1 (by omega), hc' 2 (by omega), hc' 3 (by omega), hc' 4 (by omega)⟩, ⟨hf 0 (by omega), hf 1 (by omega), hf 2 (by omega), hf 3 (by omega), hf 4 (by omega)⟩, fun e => h.tbRow ?_⟩
  rw [rowOf_pos (by have := h.t.le; omega), e]; rfl
theorem PG.fin {td : List PartD} (h : PG w W0 W Bk tb kb Bs (.slice av n cv) kc bc rs out ao co av n cv (td.flatMap PartD.cells)) (hn : n = td.length) : PSt W w.heap.size tb rs out td ao av co cv := by
  subst hn
  exact ⟨h.bt, h.htb, h.o, h.t, h.ap, h.mks⟩
/-- what a part's cells hold -/
def Five (W : World) (b : Nat) (x : PartD) : Prop := W.cell? ⟨b, 0, none⟩ = some (.string ⟨x.kind.toArray⟩) ∧ W.cell? ⟨b, 1, none⟩ = some (.string ⟨x.text.toArray⟩) ∧ W.cell? ⟨b, 2, none⟩ = some (.int .i64 x.lo) ∧ W.cell? ⟨b, 3, none⟩ = some (.int .i64 x.hi) ∧ W.cell? ⟨b, 4, none⟩ = some (.slice x.a x.kids.length x.c)
theorem PG.five {x : PartD} (h : PG w W0 W Bk tb kb Bs vt #[.string ⟨x.kind.toArray⟩, .string ⟨x.text.toArray⟩, .int .i64 x.lo, .int .i64 x.hi, .slice x.a x.kids.length x.c] bc rs out ao co av n cv xs) : Five W kb x := ⟨h.k.cell 0, h.k.cell 1, h.k.cell 2, h.k.cell 3, h.k.cell 4⟩
theorem PG.fin7 {T : List PartD} {k : PartD} {bx : Value} (h : PG w W0 W Bk tb kb Bs (.slice av n cv) kc #[bx] rs out ao co av n cv ((T ++ [k]).flatMap PartD.cells)) (hn : n = T.length + 1) (hb : Blk W0 Bs #[bx] 22) :
    KeepsFrom Bk W0 W ∧ (Below w.heap.size W0 W ∧ W.heap[Bs]? = W0.heap[Bs]?) ∧ (∃ ax cx, PSt W w.heap.size tb rs out (T ++ [k]) ao ax co cx) ∧ Below w.heap.size w W ∧ Blk W Bs #[bx] 22 :=
  ⟨h.kf, ⟨h.kp, by have h1 := h.bs; unfold Blk at h1 hb; rw [h1, hb]⟩, ⟨_, _, h.fin (by simpa using hn)⟩, h.bel, h.bs⟩
end
end Go.Proofs.Ytnepamdmjppglaa
