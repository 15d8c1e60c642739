/- A decoder: New, Lost, Left; walked. -/
import Derived.Test.YtgfkgcnnjehmlaaDoorStarts
namespace Go.Proofs.YtgfkgcnnjehmlaaDoor
open Go Go.RowKit

/-- a decoder that lies at b -/
def DecAt (w : World) (b : Nat) (s : ByteArray) (lost : Nat) : Prop := Blk w b #[.string s, .int .i64 lost] 51

/-- all but block b is as it was -/
def Keep (b : Nat) (w w' : World) : Prop := Below 0 w w' ∧ But w.heap.size b w w'
theorem Keep.below {b B : Nat} {a w w' : World} (h : Keep b w w') (k : Below B a w) (hb : B ≤ b) (hB : B ≤ w.heap.size) : Below B a w' :=
  ⟨h.1.os.trans k.os, h.1.tape.trans k.tape, h.1.output.trans k.output, Nat.le_trans k.size h.1.size, fun j hj => (h.2 j (by omega) (by omega)).trans (k.block j hj)⟩
theorem Keep.refl (b : Nat) (w : World) : Keep b w w := ⟨Below.refl _ _, But.refl _ _ _⟩
theorem Keep.size {b : Nat} {w w' : World} (h : Keep b w w') : w.heap.size ≤ w'.heap.size := h.1.size
theorem Keep.ext {b : Nat} {w w1 w' : World} (h : Keep b w w1) (k : Below w1.heap.size w1 w') : Keep b w w' :=
  ⟨h.1.trans (k.mono (Nat.zero_le _)), h.2.trans (But.of (k.mono h.1.size))⟩
theorem Keep.set {b : Nat} {w w1 : World} (h : Keep b w w1) (j : Nat) (u : Value) : Keep b w (w1.setCell ⟨b, j, none⟩ u) :=
  ⟨h.1.setCell (Nat.zero_le _) _, h.2.trans (But.set _ _)⟩
theorem Keep.own {b : Nat} {w w' : World} (h : Keep b w w') {base : Nat} {e : TypeId} {sz : Nat} {a : Option Addr} {n cap : Nat} {xs : List Value} (o : Own w base e sz a n cap xs) (hb : blockOf a ≠ some b) : Own w' base e sz a n cap xs :=
  o.congr fun g hg hlt => h.2 g hlt (fun he => hb (by rw [hg, he]))

theorem Keep.grown {b : Nat} {w w1 w' : World} (h : Keep b w w1) {row : Option Nat} (hg : w1.grownBy w' row) (hr : ∀ k, row = some k → w.heap.size ≤ k) : Keep b w w' :=
  ⟨h.1.grown hg (Nat.zero_le _) (fun _ _ => Nat.zero_le _), h.2.trans (But.grown hg h.size hr)⟩
theorem Keep.alloc {b : Nat} {w w1 : World} (h : Keep b w w1) (o : Obj) : Keep b w (w1.alloc o) := h.ext (below_a1 _ _)

/-- a body as a string -/
def strV (x : List UInt8) : Value := .string ⟨x.toArray⟩
theorem strV_data (s : ByteArray) : strV s.data.toList = .string s := rfl

theorem new_any (w : World) : Calls Tryd.prog 12 #[] w (fun e w' => e = .returned (.pointer (some ⟨w.heap.size, 0, none⟩)) ∧ w' = w.alloc (.cells #[.string { data := #[] }, .int .i64 0] 51)) := by
  go_enter Tryd.func12, Tryd.ntmps12
  go_wp2
  go_ret
  exact ⟨rfl, rfl⟩

theorem lost_any (b : Nat) (s : ByteArray) (lost : Nat) (w : World) (h : DecAt w b s lost) : Calls Tryd.prog 16 #[.pointer (some ⟨b, 0, none⟩)] w (fun e w' => e = .returned (.int .i64 lost) ∧ w' = w) := by
  have c0 := h.cell 0
  have c1 := h.cell 1
  simp only [List.getElem?_toArray, List.getElem?_cons_zero, List.getElem?_cons_succ] at c0 c1
  go_enter Tryd.func16, Tryd.ntmps16
  go_wp2
  go_ret
  exact ⟨rfl, rfl⟩

theorem left_any (b : Nat) (s : ByteArray) (lost : Nat) (w : World) (h : DecAt w b s lost) : Calls Tryd.prog 17 #[.pointer (some ⟨b, 0, none⟩)] w (fun e w' => e = .returned (.int .i64 s.size) ∧ w' = w) := by
  have c0 := h.cell 0
  have c1 := h.cell 1
  simp only [List.getElem?_toArray, List.getElem?_cons_zero, List.getElem?_cons_succ] at c0 c1
  go_enter Tryd.func17, Tryd.ntmps17
  go_wp2
  go_ret
  exact ⟨rfl, rfl⟩
theorem lost_nil (w : World) : Calls Tryd.prog 16 #[.pointer none] w (fun e w' => e = .returned (.int .i64 0) ∧ w' = w) := by
  go_enter Tryd.func16, Tryd.ntmps16
  go_wp2
  go_ret
  exact ⟨rfl, rfl⟩
theorem left_nil (w : World) : Calls Tryd.prog 17 #[.pointer none] w (fun e w' => e = .returned (.int .i64 0) ∧ w' = w) := by
  go_enter Tryd.func17, Tryd.ntmps17
  go_wp2
  go_ret
  exact ⟨rfl, rfl⟩
theorem feed_nil (t : ByteArray) (w : World) : Calls Tryd.prog 13 #[.pointer none, .string t] w (fun e w' => e = .returned (.slice none 0 0) ∧ w' = w) := by
  go_enter Tryd.func13, Tryd.ntmps13
  go_wp2
  go_ret
  exact ⟨rfl, rfl⟩
end Go.Proofs.YtgfkgcnnjehmlaaDoor
