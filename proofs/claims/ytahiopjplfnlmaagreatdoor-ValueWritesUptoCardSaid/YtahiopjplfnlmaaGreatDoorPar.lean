/- What parts holds while it adds a value; its deferred call; walked. -/
import Derived.Test.YtahiopjplfnlmaaGreatDoorKey2
import Derived.Defers
namespace Go.Proofs.YtahiopjplfnlmaaGreatDoor
open Go Go.RowKit

theorem setCell_comm {w : World} {p q : Addr} {u v : Value} (h : p.block ≠ q.block) : (w.setCell p u).setCell q v = (w.setCell q v).setCell p u := by
  unfold World.setCell
  simp only [World.mk.injEq, and_true]
  apply Array.ext
  · simp
  · intro i h1 h2
    simp only [Array.getElem_modify]
    by_cases a : p.block = i
    · have b : ¬ q.block = i := fun b => h (a.trans b.symm)
      simp [a, b]
    · by_cases b : q.block = i
      · simp [a, b]
      · simp [a, b]
/-- six cells put, from o on -/
def put6 (w : World) (g o : Nat) (u0 u1 u2 u3 u4 u5 : Value) : World :=
  (((((w.setCell ⟨g, o, none⟩ u0).setCell ⟨g, o + 1, none⟩ u1).setCell ⟨g, o + 2, none⟩ u2).setCell ⟨g, o + 3, none⟩ u3).setCell ⟨g, o + 4, none⟩ u4).setCell ⟨g, o + 5, none⟩ u5
theorem put6_comm {w : World} {g o : Nat} {u0 u1 u2 u3 u4 u5 : Value} {q : Addr} {v : Value} (h : g ≠ q.block) : put6 (w.setCell q v) g o u0 u1 u2 u3 u4 u5 = (put6 w g o u0 u1 u2 u3 u4 u5).setCell q v := by
  have h' : ∀ j, (⟨g, j, none⟩ : Addr).block ≠ q.block := fun j => h
  unfold put6
  rw [setCell_comm (p := ⟨g, o + 5, none⟩) (h' _), setCell_comm (p := ⟨g, o + 4, none⟩) (h' _), setCell_comm (p := ⟨g, o + 3, none⟩) (h' _), setCell_comm (p := ⟨g, o + 2, none⟩) (h' _), setCell_comm (p := ⟨g, o + 1, none⟩) (h' _), setCell_comm (p := ⟨g, o, none⟩) (h' _)]

theorem dec_any (b n0 : Nat) (s : Nm) (o : Int) (u : FrameMode) (w : World) (hbox : Blk w n0 #[.pointer (some ⟨b, 0, none⟩)] 58) (h : RdAt w b s (o + 1)) (ho : 0 ≤ o) (ho2 : o ≤ 1000) :
    CallsD Tryz.prog 58 #[.pointer (some ⟨n0, 0, none⟩)] u w fun e u' w' => u' = u ∧ (e = .returned (.tuple #[]) ∧ w' = w.setCell ⟨b, 1, none⟩ (.int .i64 o)) := by
  have c0 := hbox.cell 0
  have c1 := h.c1
  have f1 := Blk.free h 1
  simp only [List.getElem?_toArray, List.getElem?_cons_zero] at c0
  go_enter_d Tryz.func58, Tryz.ntmps58
  go_wp2
  go_end0
  exact ⟨rfl, by simp⟩
theorem RdAt.open {w : World} {b : Nat} {s : Nm} {o : Int} (h : RdAt w b s o) (o' : Int) : RdAt (w.setCell ⟨b, 1, none⟩ (.int .i64 o')) b s o' := Blk.set h 1 _
theorem rowOf_pos {a : Option Addr} {c : Nat} (h : 0 < c) : rowOf a c = blockOf a := by unfold rowOf; rw [if_neg (by omega)]
/-- a value put into a row's last place -/
theorem Own.put6 {w : World} {base : Nat} {e : TypeId} {g off cap : Nat} {vs : List VD} {z0 z1 z2 z3 z4 z5 : Value} (x : VD) (h : Own w base e 6 (some ⟨g, off, none⟩) (vs.length + 1) cap (vs.flatMap VD.cells ++ [z0, z1, z2, z3, z4, z5])) :
    Own (put6 w g (off + vs.length * 6) (.int .i64 x.sort) (.bool x.on) (.int .i64 x.n) (.string ⟨x.text.toArray⟩) (.slice x.a x.list.length x.c) (.slice x.ka x.keys.length x.kc)) base e 6 (some ⟨g, off, none⟩) (vs.length + 1) cap ((vs ++ [x]).flatMap VD.cells) := by
  have h0 := (h.store (j := vs.length * 6) (by omega) (.int .i64 x.sort)).2.1
  have h1 := (h0.store (j := vs.length * 6 + 1) (by omega) (.bool x.on)).2.1
  have h2 := (h1.store (j := vs.length * 6 + 2) (by omega) (.int .i64 x.n)).2.1
  have h3 := (h2.store (j := vs.length * 6 + 3) (by omega) (.string ⟨x.text.toArray⟩)).2.1
  have h4 := (h3.store (j := vs.length * 6 + 4) (by omega) (.slice x.a x.list.length x.c)).2.1
  have h5 := (h4.store (j := vs.length * 6 + 5) (by omega) (.slice x.ka x.keys.length x.kc)).2.1
  have hl : (vs.flatMap VD.cells).length = vs.length * 6 := flat_length VD.cells 6 VD.len vs
  have e : ((((((vs.flatMap VD.cells ++ [z0, z1, z2, z3, z4, z5]).set (vs.length * 6) (.int .i64 x.sort)).set (vs.length * 6 + 1) (.bool x.on)).set (vs.length * 6 + 2) (.int .i64 x.n)).set (vs.length * 6 + 3) (.string ⟨x.text.toArray⟩)).set (vs.length * 6 + 4) (.slice x.a x.list.length x.c)).set (vs.length * 6 + 5) (.slice x.ka x.keys.length x.kc) = (vs ++ [x]).flatMap VD.cells := by
    rw [List.flatMap_append, List.flatMap_singleton, ← hl, show x.cells = [.int .i64 x.sort, .bool x.on, .int .i64 x.n, .string ⟨x.text.toArray⟩, .slice x.a x.list.length x.c, .slice x.ka x.keys.length x.kc] from by cases x; rfl]
    simp
  rw [e] at h5
  simpa [Go.Proofs.YtahiopjplfnlmaaGreatDoor.put6, Nat.add_assoc] using h5
theorem Own.slots6 {w : World} {base : Nat} {e : TypeId} {g off cap : Nat} {vs : List VD} {z0 z1 z2 z3 z4 z5 : Value} (h : Own w base e 6 (some ⟨g, off, none⟩) (vs.length + 1) cap (vs.flatMap VD.cells ++ [z0, z1, z2, z3, z4, z5])) :
    (w.cell? ⟨g, off + vs.length * 6, none⟩ = some z0 ∧ w.cell? ⟨g, off + vs.length * 6 + 1, none⟩ = some z1 ∧ w.cell? ⟨g, off + vs.length * 6 + 2, none⟩ = some z2 ∧ w.cell? ⟨g, off + vs.length * 6 + 3, none⟩ = some z3 ∧ w.cell? ⟨g, off + vs.length * 6 + 4, none⟩ = some z4 ∧ w.cell? ⟨g, off + vs.length * 6 + 5, none⟩ = some z5) ∧
    (w.frozen? ⟨g, off + vs.length * 6, none⟩ = false ∧ w.frozen? ⟨g, off + vs.length * 6 + 1, none⟩ = false ∧ w.frozen? ⟨g, off + vs.length * 6 + 2, none⟩ = false ∧ w.frozen? ⟨g, off + vs.length * 6 + 3, none⟩ = false ∧ w.frozen? ⟨g, off + vs.length * 6 + 4, none⟩ = false ∧ w.frozen? ⟨g, off + vs.length * 6 + 5, none⟩ = false) ∧ base ≤ g := by
  have hl : (vs.flatMap VD.cells).length = vs.length * 6 := flat_length VD.cells 6 VD.len vs
  obtain ⟨b, o, he, hc⟩ := h.row.2 (by omega)
  cases he
  have hc' : ∀ i, i < 6 → w.cell? ⟨g, off + vs.length * 6 + i, none⟩ = [z0, z1, z2, z3, z4, z5][i]? := fun i hi => by
    rw [Nat.add_assoc, hc (vs.length * 6 + i) (by omega), List.getElem?_append_right (by omega), hl]
    congr 1
    omega
  have hf : ∀ i, i < 6 → w.frozen? ⟨g, off + vs.length * 6 + i, none⟩ = false := fun i hi => by
    rw [Nat.add_assoc]; exact (h.store (j := vs.length * 6 + i) (by omega) (.int .i64 0)).1
  exact ⟨⟨hc' 0 (by omega), hc' 1 (by omega), hc' 2 (by omega), hc' 3 (by omega), hc' 4 (by omega), hc' 5 (by omega)⟩, ⟨hf 0 (by omega), hf 1 (by omega), hf 2 (by omega), hf 3 (by omega), hf 4 (by omega), hf 5 (by omega)⟩, h.base rfl⟩
theorem put6_other {w : World} {g o : Nat} {u0 u1 u2 u3 u4 u5 : Value} {k : Nat} (h : k ≠ g) : (put6 w g o u0 u1 u2 u3 u4 u5).heap[k]? = w.heap[k]? := by
  have h' : ∀ j, k ≠ (⟨g, j, none⟩ : Addr).block := fun j => h
  unfold put6
  rw [Below.heap_setCell _ _ _ k (h' _), Below.heap_setCell _ _ _ k (h' _), Below.heap_setCell _ _ _ k (h' _), Below.heap_setCell _ _ _ k (h' _), Below.heap_setCell _ _ _ k (h' _), Below.heap_setCell _ _ _ k (h' _)]
theorem put6_below {w w' : World} {B g o : Nat} {u0 u1 u2 u3 u4 u5 : Value} (h : Below B w w') (hg : B ≤ g) : Below B w (put6 w' g o u0 u1 u2 u3 u4 u5) := by
  unfold put6
  exact (((((h.setCell (p := ⟨g, o, none⟩) hg _).setCell (p := ⟨g, o + 1, none⟩) hg _).setCell (p := ⟨g, o + 2, none⟩) hg _).setCell (p := ⟨g, o + 3, none⟩) hg _).setCell (p := ⟨g, o + 4, none⟩) hg _).setCell (p := ⟨g, o + 5, none⟩) hg _
end Go.Proofs.YtahiopjplfnlmaaGreatDoor
