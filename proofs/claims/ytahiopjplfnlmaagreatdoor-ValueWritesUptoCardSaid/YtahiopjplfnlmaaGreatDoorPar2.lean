/- parts: too deep, and without parts; walked. -/
import Derived.Test.YtahiopjplfnlmaaGreatDoorPar
namespace Go.Proofs.YtahiopjplfnlmaaGreatDoor
open Go Go.RowKit

/-- the world behind parts' three boxes -/
def box3 (w : World) (b : Nat) (sort : Int) : World :=
  ((w.alloc (.cells #[.pointer (some ⟨b, 0, none⟩)] 58)).alloc (.cells #[.int .i64 0, .bool false, .int .i64 0, .string { data := #[] }, .slice none 0 0, .slice none 0 0] 34)).alloc (.cells #[.int .i64 sort, .bool false, .int .i64 0, .string { data := #[] }, .slice none 0 0, .slice none 0 0] 34)
theorem box3_below (w : World) (b : Nat) (sort : Int) : Below w.heap.size w (box3 w b sort) := ((below_a1 w _).alloc (by simp) _).alloc (by simp; omega) _
theorem box3_pv (w : World) (b : Nat) (sort : Int) : PV w (box3 w b sort) b sort [] none 0 [] none 0 :=
  ⟨((Blk.new rfl).alloc _).alloc _, (Blk.new (by simp)).alloc _, Blk.new (by simp), Own.nil _ _ _ _, Own.nil _ _ _ _, by simp, (((Keep.refl b w).alloc _).alloc _).alloc _⟩
theorem Keep.open {b : Nat} {w w' : World} (h : Keep b w w') (u : Value) : Keep b w (w'.setCell ⟨b, 1, none⟩ u) := h.set 1 u

theorem leaves_end {W : World} {tm : Array Value} {R : Ending → World → Prop} {g : Nat} {u0 u1 u2 u3 u4 u5 : Value} {k : Int} (h6 : tm.getD 6 undef = .pointer (some ⟨g, 0, none⟩)) (h7 : tm.getD 7 undef = .int .i64 k) (hB : Blk W g #[u0, u1, u2, u3, u4, u5] 34)
    (hR : R (.returned (.tuple #[.agg #[u0, u1, u2, u3, u4, u5], .int .i64 k])) W) : Leaves Tryz.prog Tryz.f45 tm R [] .returning W := by
  have d0 := hB.cell 0
  have d1 := hB.cell 1
  have d2 := hB.cell 2
  have d3 := hB.cell 3
  have d4 := hB.cell 4
  have d5 := hB.cell 5
  simp only [List.getElem?_toArray, List.getElem?_cons_zero, List.getElem?_cons_succ] at d0 d1 d2 d3 d4 d5
  rw [Array.getD_eq_getD_getElem?] at h6 h7
  simp [Leaves, results, Tryz.results45, go_sem, h6, h7, d0, d1, d2, d3, d4, d5]
  exact hR
/-- the deferred call, and the end -/
theorem leaves_dec {W : World} {tm : Array Value} {R : Ending → World → Prop} {b n0 g : Nat} {s : Nm} {o : Int} {u0 u1 u2 u3 u4 u5 : Value} {k : Int} (h6 : tm.getD 6 undef = .pointer (some ⟨g, 0, none⟩)) (h7 : tm.getD 7 undef = .int .i64 k) (hB : Blk W g #[u0, u1, u2, u3, u4, u5] 34)
    (hbox : Blk W n0 #[.pointer (some ⟨b, 0, none⟩)] 58) (hr : RdAt W b s (o + 1)) (ho : 0 ≤ o) (ho2 : o ≤ 1000) (hg : g ≠ b)
    (hR : R (.returned (.tuple #[.agg #[u0, u1, u2, u3, u4, u5], .int .i64 k])) (W.setCell ⟨b, 1, none⟩ (.int .i64 o))) :
    Leaves Tryz.prog Tryz.f45 tm R [{ target := .fn (.func 58) #[.pointer (some ⟨n0, 0, none⟩)], args := #[] }] .returning W := by
  refine leaves_cons (f := 58) (args := #[.pointer (some ⟨n0, 0, none⟩)]) (by simp) (by simp [go_sem]) ?_
  refine (dec_any b n0 s o .returning W hbox hr ho ho2).mono ?_
  rintro e u' w'' ⟨rfl, rfl, rfl⟩
  exact leaves_end h6 h7 (Blk.other (p := ⟨b, 1, none⟩) hB hg _) hR
set_option maxHeartbeats 2000000 in
theorem parts_deep (b : Nat) (s : Nm) (o : Nat) (sort : Int) (e : UInt8) (w : World) (h : RdAt w b s o) (ho : 20 ≤ o) (ho2 : o ≤ 100) (res : Res) (hres : res = .err 22) :
    Calls Tryz.prog 45 #[.pointer (some ⟨b, 0, none⟩), .int .i64 sort, .string ⟨([e] : Nm).toArray⟩] w (VaE w b o res) := by
  have hbl := Blk.lt h
  have hoi : (20 : Int) ≤ o := by omega
  have h3 := h.ext (box3_below w b sort)
  have c1 := h3.c1
  have f1 := Blk.free h3 1
  obtain ⟨W4, hW4⟩ : ∃ W4, W4 = (box3 w b sort).setCell ⟨b, 1, none⟩ (.int .i64 ((o : Int) + 1)) := ⟨_, rfl⟩
  have hp : PV w W4 b sort [] none 0 [] none 0 := by rw [hW4]; exact (box3_pv w b sort).turn hbl ((Keep.refl b _).open _)
  have h4 : RdAt W4 b s ((o : Int) + 1) := by rw [hW4]; exact h3.open _
  unfold box3 at c1 f1 hW4
  have HP := Lib.hid hp
  have H4 := Lib.hid h4
  have HE := Lib.hid hres
  clear h hres h3 hp h4
  go_enter_defers Tryz.func45, Tryz.ntmps45
  go_upto_region 3 with (fail)
  rw [← hW4]
  clear hW4 c1 f1
  have c1 := H4.out.c1
  have b0 := HP.out.box.cell 0
  have q0 := HP.out.res.cell 0
  have q1 := HP.out.res.cell 1
  have q2 := HP.out.res.cell 2
  have q3 := HP.out.res.cell 3
  have q4 := HP.out.res.cell 4
  have q5 := HP.out.res.cell 5
  have g0 := HP.out.res.free 0
  have g1 := HP.out.res.free 1
  have g2 := HP.out.res.free 2
  have g3 := HP.out.res.free 3
  have g4 := HP.out.res.free 4
  have g5 := HP.out.res.free 5
  unfold zeroV at q0 q1 q2 q3 q4 q5
  simp only [List.getElem?_toArray, List.getElem?_cons_zero] at b0 q0 q1 q2 q3 q4 q5
  go_wp2
  refine leaves_end (g := w.heap.size + 1) rfl rfl (store6 HP.out.res) ?_
  exact vaE_err HE.out (HP.out.keep.put6 (by omega) _ _ _ _ _ _) (H4.out.put6 (by omega) _ _ _ _ _ _)

set_option maxHeartbeats 2000000 in
theorem parts_empty (b : Nat) (s r : Nm) (o : Nat) (sort : Int) (e : UInt8) (w : World) (h : RdAt w b s o) (ho : o < 20) (ht : takes [e] (skip s) = some r) (res : Res) (hres : res = .ok (.mk sort false 0 [] [] []) r) :
    Calls Tryz.prog 45 #[.pointer (some ⟨b, 0, none⟩), .int .i64 sort, .string ⟨([e] : Nm).toArray⟩] w (VaE w b o res) := by
  have hmf : ∀ (fn : Fn) (first cap : Array Value) (w : World), (Instr.makeFunc fn first cap).run Tryz.prog w = .ok (.func fn first cap) w := fun _ _ _ _ => rfl
  have hbl := Blk.lt h
  have hoi : (o : Int) < 20 := by omega
  have hoj : (0 : Int) ≤ (o : Int) := by omega
  have h3 := h.ext (box3_below w b sort)
  have c1 := h3.c1
  have f1 := Blk.free h3 1
  obtain ⟨W4, hW4⟩ : ∃ W4, W4 = (box3 w b sort).setCell ⟨b, 1, none⟩ (.int .i64 ((o : Int) + 1)) := ⟨_, rfl⟩
  have hp : PV w W4 b sort [] none 0 [] none 0 := by rw [hW4]; exact (box3_pv w b sort).turn hbl ((Keep.refl b _).open _)
  have h4 : RdAt W4 b s ((o : Int) + 1) := by rw [hW4]; exact h3.open _
  unfold box3 at c1 f1 hW4
  have HP := Lib.hid hp
  have H4 := Lib.hid h4
  have HE := Lib.hid hres
  have HT := Lib.hid ht
  clear h hres h3 hp h4 ht
  go_enter_defers Tryz.func45, Tryz.ntmps45
  go_upto_region 3 with (fail)
  rw [← hW4]
  clear hW4 c1 f1
  have c1 := H4.out.c1
  have b0 := HP.out.box.cell 0
  simp only [List.getElem?_toArray, List.getElem?_cons_zero] at b0
  go_wp2_with fail
  refine (skip_any b s _ W4 H4.out).mono ?_
  rintro e' w5 ⟨rfl, hk5, hr5⟩
  have hp5 := HP.out.turn hbl hk5
  have HP5 := Lib.hid hp5
  have HR5 := Lib.hid hr5
  clear hk5 hr5 b0 c1 hp5
  have b0 := HP5.out.box.cell 0
  simp only [List.getElem?_toArray, List.getElem?_cons_zero] at b0
  go_wp2_with fail
  refine (takes_yes b (skip s) [e] r _ w5 HR5.out HT.out).mono ?_
  rintro e' w6 ⟨rfl, hk6, hr6⟩
  have HP6 := Lib.hid (HP5.out.turn hbl hk6)
  have HR6 := Lib.hid hr6
  clear hk6 hr6 b0
  have q0 := HP6.out.res.cell 0
  have q1 := HP6.out.res.cell 1
  have q2 := HP6.out.res.cell 2
  have q3 := HP6.out.res.cell 3
  have q4 := HP6.out.res.cell 4
  have q5 := HP6.out.res.cell 5
  have g0 := HP6.out.res.free 0
  have g1 := HP6.out.res.free 1
  have g2 := HP6.out.res.free 2
  have g3 := HP6.out.res.free 3
  have g4 := HP6.out.res.free 4
  have g5 := HP6.out.res.free 5
  unfold zeroV at q0 q1 q2 q3 q4 q5
  simp only [List.getElem?_toArray, List.getElem?_cons_zero, List.getElem?_cons_succ] at q0 q1 q2 q3 q4 q5
  have v0 := HP6.out.blk.cell 0
  have v1 := HP6.out.blk.cell 1
  have v2 := HP6.out.blk.cell 2
  have v3 := HP6.out.blk.cell 3
  have v4 := HP6.out.blk.cell 4
  have v5 := HP6.out.blk.cell 5
  simp only [List.getElem?_toArray, List.getElem?_cons_zero, List.getElem?_cons_succ] at v0 v1 v2 v3 v4 v5
  go_wp2
  refine leaves_dec (n0 := w.heap.size) (g := w.heap.size + 1) (b := b) (s := r) (o := o) rfl rfl (store6 HP6.out.res) ?_ ?_ hoj (by omega) (by omega) ?_
  · exact (((((HP6.out.box.other (p := ⟨w.heap.size + 1, 0, none⟩) (by show w.heap.size ≠ w.heap.size + 1; omega) _).other (p := ⟨w.heap.size + 1, 1, none⟩) (by show w.heap.size ≠ w.heap.size + 1; omega) _).other (p := ⟨w.heap.size + 1, 2, none⟩) (by show w.heap.size ≠ w.heap.size + 1; omega) _).other (p := ⟨w.heap.size + 1, 3, none⟩) (by show w.heap.size ≠ w.heap.size + 1; omega) _).other (p := ⟨w.heap.size + 1, 4, none⟩) (by show w.heap.size ≠ w.heap.size + 1; omega) _).other (p := ⟨w.heap.size + 1, 5, none⟩) (by show w.heap.size ≠ w.heap.size + 1; omega) _
  · exact HR6.out.put6 (by omega) _ _ _ _ _ _
  · exact vaE_leaf HE.out ((HP6.out.keep.put6 (by omega) _ _ _ _ _ _).open _) ((HR6.out.put6 (by omega) _ _ _ _ _ _).open _)
end Go.Proofs.YtahiopjplfnlmaaGreatDoor
