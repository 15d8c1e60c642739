/- A value that is copied into the other type: what is held. -/
import Derived.Test.YtahiopjplfnlmaaGreatDoorSizV
namespace Go.Proofs.YtahiopjplfnlmaaGreatDoor
open Go Go.RowKit

theorem Tryz.infoDoc : (Tryz.prog.info? 26).map (fun i => (i.zero, i.size, i.bytes)) = some (some (.agg #[.int .i64 0, .bool false, .int .i64 0, .string ByteArray.empty, .slice none 0 0, .slice none 0 0]), 6, 88) := by kernel_rfl
theorem cells_list (d : VD) : d.cells = [.int .i64 d.sort, .bool d.on, .int .i64 d.n, .string ⟨d.text.toArray⟩, .slice d.a d.list.length d.c, .slice d.ka d.keys.length d.kc] := by cases d; rfl
/-- what is written: a text and an error -/
theorem wrote_two (v : V) : ∃ (sd : Nm) (kd : Int), wrote v = .tuple #[.string ⟨sd.toArray⟩, .int .i64 kd] ∧ (if right 20 v = true then sd = textV v ∧ kd = 0 else kd = 21) := by
  unfold wrote
  by_cases h : right 20 v = true
  · rw [if_pos h]; refine ⟨_, _, rfl, ?_⟩; rw [if_pos h]; exact ⟨rfl, rfl⟩
  · rw [if_neg h]; refine ⟨[], _, rfl, ?_⟩; rw [if_neg h]
/-- what is held while a value is copied: its argument's box, the copy's, and the row made so far -/
structure OV (T TA : TypeId) (B : Nat) (w0 wr : World) (d : VD) (vs : List VD) (la : Option Addr) (lc : Nat) : Prop where
  arg : Blk wr w0.heap.size #[.int .i64 d.sort, .bool d.on, .int .i64 d.n, .string ⟨d.text.toArray⟩, .slice d.a d.list.length d.c, .slice d.ka d.keys.length d.kc] TA
  res : Blk wr (w0.heap.size + 1) #[.int .i64 0, .bool false, .int .i64 0, .string { data := #[] }, .slice none 0 0, .slice none 0 0] T
  blk : Blk wr (w0.heap.size + 2) #[.int .i64 d.sort, .bool d.on, .int .i64 d.n, .string ⟨d.text.toArray⟩, .slice la vs.length lc, .slice d.ka d.keys.length d.kc] T
  own : Own wr (w0.heap.size + 3) T 6 la vs.length lc (vs.flatMap VD.cells)
  at' : ∀ x ∈ vs, ValAt wr (fun k => (k < B ∨ w0.heap.size + 3 ≤ k) ∧ rowOf la lc ≠ some k) x
  below : Below w0.heap.size w0 wr
section
variable {T TA : TypeId} {B : Nat} {w0 wr W W7 : World} {d x : VD} {vs : List VD} {la la' : Option Addr} {lc lc' : Nat}
theorem OV.ext (h : OV T TA B w0 wr d vs la lc) (hb : Below wr.heap.size wr W) : OV T TA B w0 W d vs la lc :=
  ⟨h.arg.ext hb, h.res.ext hb, h.blk.ext hb, h.own.ext hb, fun x hx => (h.at' x hx).ext hb, h.below.trans (hb.mono h.below.size)⟩
theorem OV.push (hB : B ≤ w0.heap.size) (h : OV T TA B w0 wr d vs la lc) (hb : Below wr.heap.size wr W) (hx : ValAt W (fun k => k < B ∨ wr.heap.size ≤ k) x) (o : Obj)
    (ho : Own W7 (w0.heap.size + 3) T 6 la' (vs.length + 1) lc' ((vs ++ [x]).flatMap VD.cells)) (hg : (W.alloc o).grownBy W7 (rowOf la lc)) (hbk : rowOf la' lc' = rowOf la lc ∨ rowOf la' lc' = some (W.alloc o).heap.size) :
    OV T TA B w0 (W7.setCell ⟨w0.heap.size + 2, 4, none⟩ (.slice la' (vs.length + 1) lc')) d (vs ++ [x]) la' lc' := by
  have hws := h.blk.lt
  have hap : ∀ j, j < w0.heap.size + 3 → some j ≠ rowOf la lc := fun j hj => h.own.apart hj
  obtain ⟨k1, k2, k3⟩ := grown_from (hb.alloc hb.size o) hg hbk
  obtain ⟨x1, x2, x3⟩ := grown_from (below_a1 W o) hg hbk
  have hkk : ∀ j, j < w0.heap.size + 3 → W7.heap[j]? = wr.heap[j]? := fun j hj => k1 j (by omega) (hap j hj)
  refine ⟨?_, ?_, ?_, ?_, ?_, ?_⟩
  · exact Blk.other (p := ⟨w0.heap.size + 2, 4, none⟩) ((hkk _ (by omega)).trans h.arg) (by show w0.heap.size ≠ w0.heap.size + 2; omega) _
  · exact Blk.other (p := ⟨w0.heap.size + 2, 4, none⟩) ((hkk _ (by omega)).trans h.res) (by show w0.heap.size + 1 ≠ w0.heap.size + 2; omega) _
  · have := Blk.set (w := W7) (g := w0.heap.size + 2) ((hkk _ (by omega)).trans h.blk) 4 (.slice la' (vs.length + 1) lc')
    simpa using this
  · have := ho.setCell_other (p := ⟨w0.heap.size + 2, 4, none⟩) (blockOf_ne (b := w0.heap.size + 2) ho (by omega)) (.slice la' (vs.length + 1) lc')
    simpa using this
  · intro y hy
    have hy2 : ValAt W (fun k => ((k < B ∨ w0.heap.size + 3 ≤ k) ∧ some k ≠ rowOf la lc) ∧ rowOf la' lc' ≠ some k) y := by
      have hy3 : ValAt W (fun k => (k < B ∨ w0.heap.size + 3 ≤ k) ∧ some k ≠ rowOf la lc) y := by
        rcases List.mem_append.1 hy with hy | hy
        · exact ((h.at' y hy).ext hb).mono fun g hp _ => ⟨hp.1, fun e => hp.2 e.symm⟩
        · rw [List.mem_singleton] at hy; rw [hy]
          refine hx.mono fun g hp _ => ?_
          rcases hp with hp | hp
          · exact ⟨.inl hp, hap g (by omega)⟩
          · exact ⟨.inr (by omega), own_new h.own hp⟩
      refine hy3.mono fun g hp hlt => ⟨hp, ?_⟩
      rcases x3 with hr | ⟨j, hr, hj⟩
      · rw [hr]; exact fun e => hp.2 e.symm
      · rw [hr]; intro e; injection e; omega
    have h3 := hy2.congr (w' := W7.setCell ⟨w0.heap.size + 2, 4, none⟩ (.slice la' (vs.length + 1) lc')) fun g hp hlt => by
      rw [Below.heap_setCell W7 ⟨w0.heap.size + 2, 4, none⟩ _ g (by show g ≠ w0.heap.size + 2; omega)]
      exact x1 g hlt hp.1.2
    exact h3.mono fun g hp _ => ⟨hp.1.1, hp.2⟩
  · have h0 : Below w0.heap.size w0 (W.alloc o) := (h.below.trans (hb.mono h.below.size)).alloc (by have := h.below.size; have := hb.size; omega) _
    refine (h0.grown hg h0.size (fun j hj => ?_)).setCell (p := ⟨w0.heap.size + 2, 4, none⟩) (by show w0.heap.size ≤ w0.heap.size + 2; omega) _
    have := h.own.rowBase (Nat.le_refl _) j hj
    omega
end
/-- the world at the start: three boxes -/
def box3V (T TA : TypeId) (w : World) (d : VD) : World := ((w.alloc (.cells #[.int .i64 d.sort, .bool d.on, .int .i64 d.n, .string ⟨d.text.toArray⟩, .slice d.a d.list.length d.c, .slice d.ka d.keys.length d.kc] TA)).alloc (.cells #[.int .i64 0, .bool false, .int .i64 0, .string { data := #[] }, .slice none 0 0, .slice none 0 0] T)).alloc (.cells #[.int .i64 d.sort, .bool d.on, .int .i64 d.n, .string ⟨d.text.toArray⟩, .slice none 0 0, .slice d.ka d.keys.length d.kc] T)
theorem OV.start (T TA : TypeId) (B : Nat) (w : World) (d : VD) : OV T TA B w (box3V T TA w d) d [] none 0 := by
  unfold box3V
  refine ⟨((Blk.new rfl).alloc _).alloc _, (Blk.new (by simp)).alloc _, Blk.new (by simp), Own.nil _ _ _ _, (fun x hx => by cases hx), ((below_a1 w _).alloc (by simp) _).alloc (by simp; omega) _⟩
/-- a copy: of the same value, in blocks that were there ahead of B, or new -/
def OfE (B : Nat) (w : World) (v : V) (e : Ending) (w' : World) : Prop := ∃ d' : VD, e = .returned (.agg #[.int .i64 d'.sort, .bool d'.on, .int .i64 d'.n, .string ⟨d'.text.toArray⟩, .slice d'.a d'.list.length d'.c, .slice d'.ka d'.keys.length d'.kc]) ∧ d'.v = v ∧ ValAt w' (fun k => k < B ∨ w.heap.size ≤ k) d' ∧ Below w.heap.size w w'
theorem OV.fin {T TA : TypeId} {B : Nat} {w0 wr : World} {d : VD} {vs : List VD} {la : Option Addr} {lc : Nat} (hB : B ≤ w0.heap.size) (h : OV T TA B w0 wr d vs la lc) (hk : ValAt w0 (fun k => k < B) d) (hv : vs.map VD.v = d.list.map VD.v) :
    OfE B w0 d.v (.returned (.agg #[.int .i64 d.sort, .bool d.on, .int .i64 d.n, .string ⟨d.text.toArray⟩, .slice la vs.length lc, .slice d.ka d.keys.length d.kc]))
      (put6 wr (w0.heap.size + 1) 0 (.int .i64 d.sort) (.bool d.on) (.int .i64 d.n) (.string ⟨d.text.toArray⟩) (.slice la vs.length lc) (.slice d.ka d.keys.length d.kc)) := by
  refine ⟨VD.mk d.sort d.on d.n d.text la lc vs d.ka d.kc d.keys, rfl, by rw [VD.v, vsOf_map, hv, VD.v_eq d], ?_, put6_below (o := 0) h.below (by omega)⟩
  have hsz := h.below.size
  have hot : ∀ g, (g < B ∨ w0.heap.size + 3 ≤ g) → (put6 wr (w0.heap.size + 1) 0 (.int .i64 d.sort) (.bool d.on) (.int .i64 d.n) (.string ⟨d.text.toArray⟩) (.slice la vs.length lc) (.slice d.ka d.keys.length d.kc)).heap[g]? = wr.heap[g]? := fun g hg => put6_other (by omega)
  refine .mk ?_ ?_ (fun g _ hg => .inr (by have := h.own.base hg; omega)) (fun g h0 hg => .inl (hk.kblk g h0 hg)) (fun x hx => ?_)
  · exact h.own.row.congr fun g _ hg _ => hot g (.inr (h.own.base hg))
  · exact (hk.krow.ext h.below).congr fun g h0 hg _ => hot g (.inl (hk.kblk g (by omega) hg))
  · exact ((h.at' x hx).congr fun g hg _ => hot g hg.1).mono fun g hg _ => by omega
end Go.Proofs.YtahiopjplfnlmaaGreatDoor
