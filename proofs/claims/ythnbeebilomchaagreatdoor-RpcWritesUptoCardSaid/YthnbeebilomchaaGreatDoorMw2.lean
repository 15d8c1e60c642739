/- parts: too deep, and without parts; walked. parts: its loop; walked. value, and Read: walked. Read: walked. Small functions of the documents: Strings, Right; walked. Maps keyed by texts, whatever they hold: what they read as by their keys; looked up, stored into, counted. Maps keyed by texts: the laws at the operations, for a walk. Keys that may be: walked. What is right: walked. A part of a record, a value's size, whether two are one: plainly. What is right, of a value's list: walked. What is right: walked. Whether two values are one: walked. A text between quotes: walked. A value's text: walked. A list's text, and a record's: walked. Write: walked. A part of a Record: walked. The live question: walked. How large a value is: walked. A value that is copied into the other type: what is held. -/
import Derived.Test.YthnbeebilomchaaGreatDoorMw1
import Derived.Deep.RegionHeld3
import Derived.Maps.OwnSet
import Derived.Sort.KeysCollected
import Derived.Lib.SlBytesRow
namespace Go.Proofs.YthnbeebilomchaaGreatDoor
open Go Go.RowKit

def box3 (w : World) (b : Nat) (sort : Int) : World :=
  ((w.alloc (.cells #[.pointer (some ⟨b, 0, none⟩)] 106)).alloc (.cells #[.int .i64 0, .bool false, .int .i64 0, .string { data := #[] }, .slice none 0 0, .slice none 0 0] 36)).alloc (.cells #[.int .i64 sort, .bool false, .int .i64 0, .string { data := #[] }, .slice none 0 0, .slice none 0 0] 36)
theorem box3_below (w : World) (b : Nat) (sort : Int) : Below w.heap.size w (box3 w b sort) := ((below_a1 w _).alloc (by simp) _).alloc (by simp; omega) _
theorem box3_pv (w : World) (b : Nat) (sort : Int) : PV w (box3 w b sort) b sort [] none 0 [] none 0 :=
  ⟨((Blk.new rfl).alloc _).alloc _, (Blk.new (by simp)).alloc _, Blk.new (by simp), Own.nil _ _ _ _, Own.nil _ _ _ _, by simp, (((Keep.refl b w).alloc _).alloc _).alloc _⟩
theorem Keep.open {b : Nat} {w w' : World} (h : Keep b w w') (u : Value) : Keep b w (w'.setCell ⟨b, 1, none⟩ u) := h.set 1 u

theorem leaves_end {W : World} {tm : Array Value} {R : Ending → World → Prop} {g : Nat} {u0 u1 u2 u3 u4 u5 : Value} {k : Int} (h6 : tm.getD 6 undef = .pointer (some ⟨g, 0, none⟩)) (h7 : tm.getD 7 undef = .int .i64 k) (hB : Blk W g #[u0, u1, u2, u3, u4, u5] 36)
    (hR : R (.returned (.tuple #[.agg #[u0, u1, u2, u3, u4, u5], .int .i64 k])) W) : Leaves Tryz.prog Tryz.f76 tm R [] .returning W := by
  have d0 := hB.cell 0
  have d1 := hB.cell 1
  have d2 := hB.cell 2
  have d3 := hB.cell 3
  have d4 := hB.cell 4
  have d5 := hB.cell 5
  simp only [List.getElem?_toArray, List.getElem?_cons_zero, List.getElem?_cons_succ] at d0 d1 d2 d3 d4 d5
  rw [Array.getD_eq_getD_getElem?] at h6 h7
  simp [Leaves, results, Tryz.results76, go_sem, h6, h7, d0, d1, d2, d3, d4, d5]
  exact hR
theorem leaves_dec {W : World} {tm : Array Value} {R : Ending → World → Prop} {b n0 g : Nat} {s : Nm} {o : Int} {u0 u1 u2 u3 u4 u5 : Value} {k : Int} (h6 : tm.getD 6 undef = .pointer (some ⟨g, 0, none⟩)) (h7 : tm.getD 7 undef = .int .i64 k) (hB : Blk W g #[u0, u1, u2, u3, u4, u5] 36)
    (hbox : Blk W n0 #[.pointer (some ⟨b, 0, none⟩)] 106) (hr : RdAt W b s (o + 1)) (ho : 0 ≤ o) (ho2 : o ≤ 1000) (hg : g ≠ b)
    (hR : R (.returned (.tuple #[.agg #[u0, u1, u2, u3, u4, u5], .int .i64 k])) (W.setCell ⟨b, 1, none⟩ (.int .i64 o))) :
    Leaves Tryz.prog Tryz.f76 tm R [{ target := .fn (.func 97) #[.pointer (some ⟨n0, 0, none⟩)], args := #[] }] .returning W := by
  refine leaves_cons (f := 97) (args := #[.pointer (some ⟨n0, 0, none⟩)]) (by simp) (by simp [go_sem]) ?_
  refine (dec_any b n0 s o .returning W hbox hr ho ho2).mono ?_
  rintro e u' w'' ⟨rfl, rfl, rfl⟩
  exact leaves_end h6 h7 (Blk.other (p := ⟨b, 1, none⟩) hB hg _) hR
set_option maxHeartbeats 2000000 in
theorem parts_deep (b : Nat) (s : Nm) (o : Nat) (sort : Int) (e : UInt8) (w : World) (h : RdAt w b s o) (ho : 20 ≤ o) (ho2 : o ≤ 100) (res : Res) (hres : res = .err 22) :
  Calls Tryz.prog 76 #[.pointer (some ⟨b, 0, none⟩), .int .i64 sort, .string ⟨([e] : Nm).toArray⟩] w (VaE w b o res) := by
 have hbl := Blk.lt h
 have hoi : (20 : Int) ≤ o := by omega
 have h3 := h.ext (box3_below w b sort)
 have c1 := h3.c1
 have f1 := Blk.free h3 1
 obtain ⟨W4, hW4⟩ : ∃ W4, W4 = (box3 w b sort).setCell ⟨b, 1, none⟩ (.int .i64 ((o : Int) + 1)) := ⟨_, rfl⟩
 have hp : PV w W4 b sort [] none 0 [] none 0 := by rw [hW4]; exact (box3_pv w b sort).turn hbl ((Keep.refl b _).open _)
 have h4 : RdAt W4 b s ((o : Int) + 1) := by rw [hW4]; exact h3.open _
 unfold box3 at c1 f1 hW4
 have HP := Lib.hid hp
 have H4 := Lib.hid h4
 have HE := Lib.hid hres
 clear h hres h3 hp h4
 go_enter_defers Tryz.func76, Tryz.ntmps76
 go_upto_region 3 with (fail)
 rw [← hW4]
 clear hW4 c1 f1
 have c1 := H4.out.c1
 have b0 := HP.out.box.cell 0
 have q0 := HP.out.res.cell 0
 have q1 := HP.out.res.cell 1
 have q2 := HP.out.res.cell 2
 have q3 := HP.out.res.cell 3
 have q4 := HP.out.res.cell 4
 have q5 := HP.out.res.cell 5
 have g0 := HP.out.res.free 0
 have g1 := HP.out.res.free 1
 have g2 := HP.out.res.free 2
 have g3 := HP.out.res.free 3
 have g4 := HP.out.res.free 4
 have g5 := HP.out.res.free 5
 unfold zeroV at q0 q1 q2 q3 q4 q5
 simp only [List.getElem?_toArray, List.getElem?_cons_zero] at b0 q0 q1 q2 q3 q4 q5
 go_wp2
 refine leaves_end (g := w.heap.size + 1) rfl rfl (store6 HP.out.res) ?_
 exact vaE_err HE.out (HP.out.keep.put6 (by omega) _ _ _ _ _ _) (H4.out.put6 (by omega) _ _ _ _ _ _)

set_option maxHeartbeats 2000000 in
theorem parts_empty (b : Nat) (s r : Nm) (o : Nat) (sort : Int) (e : UInt8) (w : World) (h : RdAt w b s o) (ho : o < 20) (ht : takes [e] (skip s) = some r) (res : Res) (hres : res = .ok (.mk sort false 0 [] [] []) r) :
  Calls Tryz.prog 76 #[.pointer (some ⟨b, 0, none⟩), .int .i64 sort, .string ⟨([e] : Nm).toArray⟩] w (VaE w b o res) := by
 have hmf : ∀ (fn : Fn) (first cap : Array Value) (w : World), (Instr.makeFunc fn first cap).run Tryz.prog w = .ok (.func fn first cap) w := fun _ _ _ _ => rfl
 have hbl := Blk.lt h
 have hoi : (o : Int) < 20 := by omega
 have hoj : (0 : Int) ≤ (o : Int) := by omega
 have h3 := h.ext (box3_below w b sort)
 have c1 := h3.c1
 have f1 := Blk.free h3 1
 obtain ⟨W4, hW4⟩ : ∃ W4, W4 = (box3 w b sort).setCell ⟨b, 1, none⟩ (.int .i64 ((o : Int) + 1)) := ⟨_, rfl⟩
 have hp : PV w W4 b sort [] none 0 [] none 0 := by rw [hW4]; exact (box3_pv w b sort).turn hbl ((Keep.refl b _).open _)
 have h4 : RdAt W4 b s ((o : Int) + 1) := by rw [hW4]; exact h3.open _
 unfold box3 at c1 f1 hW4
 have HP := Lib.hid hp
 have H4 := Lib.hid h4
 have HE := Lib.hid hres
 have HT := Lib.hid ht
 clear h hres h3 hp h4 ht
 go_enter_defers Tryz.func76, Tryz.ntmps76
 go_upto_region 3 with (fail)
 rw [← hW4]
 clear hW4 c1 f1
 have c1 := H4.out.c1
 have b0 := HP.out.box.cell 0
 simp only [List.getElem?_toArray, List.getElem?_cons_zero] at b0
 go_wp2_with fail
 refine (skip_any b s _ W4 H4.out).mono ?_
 rintro e' w5 ⟨rfl, hk5, hr5⟩
 have hp5 := HP.out.turn hbl hk5
 have HP5 := Lib.hid hp5
 have HR5 := Lib.hid hr5
 clear hk5 hr5 b0 c1 hp5
 have b0 := HP5.out.box.cell 0
 simp only [List.getElem?_toArray, List.getElem?_cons_zero] at b0
 go_wp2_with fail
 refine (takes_yes b (skip s) [e] r _ w5 HR5.out HT.out).mono ?_
 rintro e' w6 ⟨rfl, hk6, hr6⟩
 have HP6 := Lib.hid (HP5.out.turn hbl hk6)
 have HR6 := Lib.hid hr6
 clear hk6 hr6 b0
 have q0 := HP6.out.res.cell 0
 have q1 := HP6.out.res.cell 1
 have q2 := HP6.out.res.cell 2
 have q3 := HP6.out.res.cell 3
 have q4 := HP6.out.res.cell 4
 have q5 := HP6.out.res.cell 5
 have g0 := HP6.out.res.free 0
 have g1 := HP6.out.res.free 1
 have g2 := HP6.out.res.free 2
 have g3 := HP6.out.res.free 3
 have g4 := HP6.out.res.free 4
 have g5 := HP6.out.res.free 5
 unfold zeroV at q0 q1 q2 q3 q4 q5
 simp only [List.getElem?_toArray, List.getElem?_cons_zero, List.getElem?_cons_succ] at q0 q1 q2 q3 q4 q5
 have v0 := HP6.out.blk.cell 0
 have v1 := HP6.out.blk.cell 1
 have v2 := HP6.out.blk.cell 2
 have v3 := HP6.out.blk.cell 3
 have v4 := HP6.out.blk.cell 4
 have v5 := HP6.out.blk.cell 5
 simp only [List.getElem?_toArray, List.getElem?_cons_zero, List.getElem?_cons_succ] at v0 v1 v2 v3 v4 v5
 go_wp2
 refine leaves_dec (n0 := w.heap.size) (g := w.heap.size + 1) (b := b) (s := r) (o := o) rfl rfl (store6 HP6.out.res) ?_ ?_ hoj (by omega) (by omega) ?_
 ·
  exact (((((HP6.out.box.other (p := ⟨w.heap.size + 1, 0, none⟩) (by show w.heap.size ≠ w.heap.size + 1; omega) _).other (p := ⟨w.heap.size + 1, 1, none⟩) (by show w.heap.size ≠ w.heap.size + 1; omega) _).other (p := ⟨w.heap.size + 1, 2, none⟩) (by show w.heap.size ≠ w.heap.size + 1; omega) _).other (p := ⟨w.heap.size + 1, 3, none⟩) (by show w.heap.size ≠ w.heap.size + 1; omega) _).other (p := ⟨w.heap.size + 1, 4, none⟩) (by show w.heap.size ≠ w.heap.size + 1; omega) _).other (p := ⟨w.heap.size + 1, 5, none⟩) (by show w.heap.size ≠ w.heap.size + 1; omega) _
 ·
  exact HR6.out.put6 (by omega) _ _ _ _ _ _
 ·
  exact vaE_leaf HE.out ((HP6.out.keep.put6 (by omega) _ _ _ _ _ _).open _) ((HR6.out.put6 (by omega) _ _ _ _ _ _).open _)
end Go.Proofs.YthnbeebilomchaaGreatDoor

namespace Go.Proofs.YthnbeebilomchaaGreatDoor
open Go Go.RowKit

theorem Blk.other6 {w : World} {k g : Nat} {cs : Array Value} {T : TypeId} {u0 u1 u2 u3 u4 u5 : Value} (h : Blk w k cs T) (hk : k ≠ g) :
    Blk ((((((w.setCell ⟨g, 0, none⟩ u0).setCell ⟨g, 1, none⟩ u1).setCell ⟨g, 2, none⟩ u2).setCell ⟨g, 3, none⟩ u3).setCell ⟨g, 4, none⟩ u4).setCell ⟨g, 5, none⟩ u5) k cs T :=
  ((((((h.other (p := ⟨g, 0, none⟩) hk u0).other (p := ⟨g, 1, none⟩) hk u1).other (p := ⟨g, 2, none⟩) hk u2).other (p := ⟨g, 3, none⟩) hk u3).other (p := ⟨g, 4, none⟩) hk u4).other (p := ⟨g, 5, none⟩) hk u5)
def Six (w : World) (g : Nat) (d : VD) : Prop := w.cell? ⟨g, 0, none⟩ = some (.int .i64 d.sort) ∧ w.cell? ⟨g, 1, none⟩ = some (.bool d.on) ∧ w.cell? ⟨g, 2, none⟩ = some (.int .i64 d.n) ∧ w.cell? ⟨g, 3, none⟩ = some (.string ⟨d.text.toArray⟩) ∧ w.cell? ⟨g, 4, none⟩ = some (.slice d.a d.list.length d.c) ∧ w.cell? ⟨g, 5, none⟩ = some (.slice d.ka d.keys.length d.kc)
theorem Six.ext {w w' : World} {g : Nat} {d : VD} (h : Six w g d) (hb : Below w.heap.size w w') : Six w' g d :=
  ⟨below_ext hb h.1, below_ext hb h.2.1, below_ext hb h.2.2.1, below_ext hb h.2.2.2.1, below_ext hb h.2.2.2.2.1, below_ext hb h.2.2.2.2.2⟩
theorem Six.block {w w' : World} {g : Nat} {d : VD} (h : Six w g d) (hb : w'.heap[g]? = w.heap[g]?) : Six w' g d := by
  have k : ∀ j, w'.cell? ⟨g, j, none⟩ = w.cell? ⟨g, j, none⟩ := fun j => World.cell?_of_block (w := w) (a := ⟨g, j, none⟩) hb
  exact ⟨(k 0).trans h.1, (k 1).trans h.2.1, (k 2).trans h.2.2.1, (k 3).trans h.2.2.2.1, (k 4).trans h.2.2.2.2.1, (k 5).trans h.2.2.2.2.2⟩
theorem VD.val_eq' (d : VD) : d.val = .agg #[.int .i64 d.sort, .bool d.on, .int .i64 d.n, .string ⟨d.text.toArray⟩, .slice d.a d.list.length d.c, .slice d.ka d.keys.length d.kc] := by cases d; rfl
theorem own_new {w : World} {base : Nat} {e : TypeId} {sz : Nat} {a : Option Addr} {n cap : Nat} {xs : List Value} (h : Own w base e sz a n cap xs) {g : Nat} (hg : w.heap.size ≤ g) : some g ≠ rowOf a cap := by
  intro he
  unfold rowOf at he
  split at he
  · cases he
  · rename_i hc
    have := (h.size (Nat.pos_of_ne_zero hc) he.symm).2
    omega
def NoPan (Q : Exit → Act → World → Prop) : Exit → Act → World → Prop
  | .panic _, _, _ => False
  | .normal, a, w => Q .normal a w
  | .ret, a, w => Q .ret a w
  | .exit n, a, w => Q (.exit n) a w
  | .goto t, a, w => Q (.goto t) a w
  | .outgrown, a, w => Q .outgrown a w
theorem wp_noPan {P : Program} {c : Code} {Q : Exit → Act → World → Prop} {a : Act} {w : World} (h : c.wp P (NoPan Q) a w) : c.wp P Q a w :=
  Code.wp_mono (fun e a w h => by cases e <;> first | exact h | exact h.elim) h
theorem grown_from {w7 W w8 : World} {a a' : Option Addr} {c c' : Nat} (h : Below w7.heap.size w7 W) (hg : W.grownBy w8 (rowOf a c)) (hbk : rowOf a' c' = rowOf a c ∨ rowOf a' c' = some W.heap.size) :
    (∀ j, j < w7.heap.size → some j ≠ rowOf a c → w8.heap[j]? = w7.heap[j]?) ∧ Below 0 w7 w8 ∧ (rowOf a' c' = rowOf a c ∨ ∃ j, rowOf a' c' = some j ∧ w7.heap.size ≤ j) := by
  refine ⟨fun j hj hne => (hg.block j (Nat.lt_of_lt_of_le hj h.size) hne).trans (h.block j hj), (h.mono (Nat.zero_le _)).grown hg (Nat.zero_le _) (fun _ _ => Nat.zero_le _), ?_⟩
  rcases hbk with hbk | hbk
  · exact .inl hbk
  · exact .inr ⟨_, hbk, h.size⟩
theorem vaE_parts {w W : World} {b : Nat} {o sort : Int} {vs : List VD} {la : Option Addr} {lc : Nat} {ks : List Nm} {ka : Option Addr} {kc : Nat} {t : Nm} {res : Res} (hres : res = .ok (.mk sort false 0 [] (vs.map VD.v) ks) t) (hP : PV w W b sort vs la lc ks ka kc) (hb : b < w.heap.size) (hR : RdAt W b t (o + 1)) :
  VaE w b o res (.returned (.tuple #[.agg #[.int .i64 sort, .bool false, .int .i64 0, .string { data := #[] }, .slice la vs.length lc, .slice ka ks.length kc], .int .i64 0]))
   (((((((W.setCell ⟨w.heap.size + 1, 0, none⟩ (.int .i64 sort)).setCell ⟨w.heap.size + 1, 1, none⟩ (.bool false)).setCell ⟨w.heap.size + 1, 2, none⟩ (.int .i64 0)).setCell ⟨w.heap.size + 1, 3, none⟩ (.string { data := #[] })).setCell ⟨w.heap.size + 1, 4, none⟩ (.slice la vs.length lc)).setCell ⟨w.heap.size + 1, 5, none⟩ (.slice ka ks.length kc)).setCell ⟨b, 1, none⟩ (.int .i64 o)) := by
 rw [hres]
 have hother : ∀ j, w.heap.size + 3 ≤ j → (((((((W.setCell ⟨w.heap.size + 1, 0, none⟩ (.int .i64 sort)).setCell ⟨w.heap.size + 1, 1, none⟩ (.bool false)).setCell ⟨w.heap.size + 1, 2, none⟩ (.int .i64 0)).setCell ⟨w.heap.size + 1, 3, none⟩ (.string { data := #[] })).setCell ⟨w.heap.size + 1, 4, none⟩ (.slice la vs.length lc)).setCell ⟨w.heap.size + 1, 5, none⟩ (.slice ka ks.length kc)).setCell ⟨b, 1, none⟩ (.int .i64 o)).heap[j]? = W.heap[j]? := fun j hj => by
  have h1 : ∀ i, j ≠ (⟨w.heap.size + 1, i, none⟩ : Addr).block := fun i => by show j ≠ w.heap.size + 1; omega
  rw [Below.heap_setCell _ ⟨b, 1, none⟩ _ j (by show j ≠ b; omega), Below.heap_setCell _ _ _ j (h1 _), Below.heap_setCell _ _ _ j (h1 _), Below.heap_setCell _ _ _ j (h1 _), Below.heap_setCell _ _ _ j (h1 _), Below.heap_setCell _ _ _ j (h1 _), Below.heap_setCell _ _ _ j (h1 _)]
 refine ⟨.mk sort false 0 [] la lc vs ka kc ks, rfl, by rw [VD.v, vsOf_map], ?_, (hP.keep.put6 (by omega) _ _ _ _ _ _).open _, (hR.put6 (by omega) _ _ _ _ _ _).open _⟩
 refine .mk ?_ ?_ (fun g _ hg => by have := hP.own.base hg; omega) (fun g _ hg => by have := hP.kown.base hg; omega) (fun x hx => ?_)
 ·
  exact hP.own.row.congr fun g _ hg _ => hother g (hP.own.base hg)
 ·
  exact hP.kown.row.congr fun g _ hg _ => hother g (hP.kown.base hg)
 ·
  exact ((hP.at' x hx).congr fun g hg _ => hother g hg.1).mono fun g hg _ => by omega
theorem plainL_err {s : Nm} {k : Int} (h : plainL s = .err k) : k = 21 := by
  unfold plainL at h
  split at h
  · split at h
    · injection h with h; exact h.symm
    · cases h
  · split at h
    · split at h
      · injection h with h; exact h.symm
      · cases h
    · split at h
      · cases h
      · split at h
        · cases h
        · split at h
          · cases h
          · injection h with h; exact h.symm
theorem read_err : ∀ f : Nat, (∀ o s k, valL f o s = .err k → k = 21 ∨ k = 22) ∧ (∀ o sort e s k, partsL f o sort e s = .err k → k = 21 ∨ k = 22) ∧
  (∀ o sort e s vs ks k, loopL f o sort e s vs ks = .err k → k = 21 ∨ k = 22) ∧ (∀ o sort e s vs ks k, elemL f o sort e s vs ks = .err k → k = 21 ∨ k = 22)
 | 0 => ⟨fun _ _ _ h => by simp [valL] at h, fun _ _ _ _ _ h => by simp [partsL] at h, fun _ _ _ _ _ _ _ h => by simp [loopL] at h, fun _ _ _ _ _ _ _ h => by simp [elemL] at h⟩
 | f + 1 => by
  obtain ⟨h1, h2, h3, h4⟩ := read_err f
  refine ⟨fun o s k h => ?_, fun o sort e s k h => ?_, fun o sort e s vs ks k h => ?_, fun o sort e s vs ks k h => ?_⟩
  ·
   rw [valL_fin] at h
   unfold headL at h
   cases ha : takes [123] (skip s) with
   | some r =>
    rw [ha] at h
    simp only at h
    cases hb : partsL f o 5 125 r with
    | out => rw [hb] at h; cases h
    | err j => rw [hb] at h; injection h with h; rw [← h]; exact h2 _ _ _ _ _ hb
    | ok v t => rw [hb] at h; cases h
   | none =>
    rw [ha] at h
    simp only at h
    cases hc : takes [91] (skip s) with
    | some r =>
     rw [hc] at h
     simp only at h
     cases hb : partsL f o 4 93 r with
     | out => rw [hb] at h; cases h
     | err j => rw [hb] at h; injection h with h; rw [← h]; exact h2 _ _ _ _ _ hb
     | ok v t => rw [hb] at h; cases h
    | none =>
     rw [hc] at h
     simp only at h
     cases hb : plainL (skip s) with
     | out => rw [hb] at h; cases h
     | err j => rw [hb] at h; injection h with h; rw [← h]; exact .inl (plainL_err hb)
     | ok v t => rw [hb] at h; cases h
  ·
   rw [partsL_step] at h
   split at h
   ·
    injection h with h; exact .inr h.symm
   ·
    split at h
    ·
     cases h
    ·
     exact h3 _ _ _ _ _ _ _ h
  ·
   rw [loopL_step] at h
   split at h
   ·
    split at h
    ·
     injection h with h; exact .inl h.symm
    ·
     exact h4 _ _ _ _ _ _ _ h
   ·
    exact h4 _ _ _ _ _ _ _ h
  ·
   rw [elemL_step] at h
   cases hb : valL f o s with
   | out => rw [hb] at h; cases h
   | err j => rw [hb] at h; injection h with h; rw [← h]; exact h1 _ _ _ hb
   | ok x r =>
    rw [hb] at h
    simp only at h
    split at h
    ·
     cases h
    ·
     split at h
     ·
      exact h3 _ _ _ _ _ _ _ h
     ·
      injection h with h; exact .inl h.symm
set_option maxHeartbeats 8000000 in
theorem parts_loop (f : Nat) (HV : Hid (∀ g, g ≤ f → ∀ (b : Nat) (s : Nm) (o : Nat) (w : World), Glob w → 8 ≤ b → RdAt w b s o → s.length ≤ 1048576 → o ≤ 20 → valL g o s ≠ .out → Calls Tryz.prog 52 #[.pointer (some ⟨b, 0, none⟩)] w (VaE w b o (valL g o s))))
  (b : Nat) (s : Nm) (o : Nat) (sort : Int) (e : UInt8) (w : World) (hG : Glob w) (hb8 : 8 ≤ b) (h : RdAt w b s o) (hs : s.length ≤ 1048576) (ho : o < 20) (ht : takes [e] (skip s) = none) (res : Res) (hres : res = loopL f (o + 1) sort e (skip s) [] []) (hne : res ≠ .out) :
  Calls Tryz.prog 76 #[.pointer (some ⟨b, 0, none⟩), .int .i64 sort, .string ⟨([e] : Nm).toArray⟩] w (VaE w b o res) := by
 have hmf : ∀ (fn : Fn) (first cap : Array Value) (w : World), (Instr.makeFunc fn first cap).run Tryz.prog w = .ok (.func fn first cap) w := fun _ _ _ _ => rfl
 have hbl := Blk.lt h
 have hoi : (o : Int) < 20 := by omega
 have hoj : (0 : Int) ≤ (o : Int) := by omega
 have h3 := h.ext (box3_below w b sort)
 have c1 := h3.c1
 have f1 := Blk.free h3 1
 obtain ⟨W4, hW4⟩ : ∃ W4, W4 = (box3 w b sort).setCell ⟨b, 1, none⟩ (.int .i64 ((o : Int) + 1)) := ⟨_, rfl⟩
 have hp : PV w W4 b sort [] none 0 [] none 0 := by rw [hW4]; exact (box3_pv w b sort).turn hbl ((Keep.refl b _).open _)
 have h4 : RdAt W4 b s ((o : Int) + 1) := by rw [hW4]; exact h3.open _
 unfold box3 at c1 f1 hW4
 have HP := Lib.hid hp
 have H4 := Lib.hid h4
 have HG := Lib.hid hG
 have HT := Lib.hid ht
 have Hres := Lib.hid hres
 have Hne := Lib.hid hne
 have hsl := skip_len s
 clear h hres h3 hp h4 ht hG hne
 go_enter_defers Tryz.func76, Tryz.ntmps76
 refine wp_noPan ?_
 go_upto_region 3 with (fail)
 rw [← hW4]
 clear hW4 c1 f1
 have c1 := H4.out.c1
 have b0 := HP.out.box.cell 0
 simp only [List.getElem?_toArray, List.getElem?_cons_zero] at b0
 go_wp2_with fail
 refine (skip_any b s _ W4 H4.out).mono ?_
 rintro e' w5 ⟨rfl, hk5, hr5⟩
 have hp5 := HP.out.turn hbl hk5
 have HP5 := Lib.hid hp5
 have HR5 := Lib.hid hr5
 clear hk5 hr5 b0 c1 hp5
 have b0 := HP5.out.box.cell 0
 simp only [List.getElem?_toArray, List.getElem?_cons_zero] at b0
 go_wp2_with fail
 refine (takes_no b (skip s) [e] _ w5 HR5.out HT.out).mono ?_
 rintro e' w6 ⟨rfl, hk6, hr6⟩
 have HP6 := Lib.hid (HP5.out.turn hbl hk6)
 have HR6 := Lib.hid hr6
 clear hk6 hr6 b0 HP5 HR5 HP H4 HT
 go_wp2_with fail
 go_loopw [7, 9, 10, 11] (fun _ _ _ _ wr => ∃ (g : Nat) (t : Nm) (vs : List VD) (la : Option Addr) (lc : Nat) (ks : List Nm) (ka : Option Addr) (kc : Nat), Hid (g ≤ f ∧ res = loopL g (o + 1) sort e t (vs.map VD.v) ks) ∧ Hid (PV w wr b sort vs la lc ks ka kc) ∧ Hid (RdAt wr b t ((o : Int) + 1)) ∧ vs.length + t.length ≤ 1048576 ∧ ks.length + t.length ≤ 1048576) (fun _ _ _ _ wr => leftAt wr b)
 case atStart => exact ⟨f, skip s, [], none, 0, [], none, 0, Lib.hid ⟨Nat.le_refl _, Hres.out⟩, HP6, HR6, by simp; omega, by simp; omega⟩
 case round =>
  obtain ⟨g, t, vs, la, lc, ks, ka, kc, hq, hP, hR, hl1, hl2⟩ := hrel
  have b0 := hP.out.box.cell 0
  simp only [List.getElem?_toArray, List.getElem?_cons_zero] at b0
  have hq1 := hq.out
  clear hq
  cases g with
  | zero => exact absurd (by rw [hq1.2]; simp [loopL]) Hne.out
  | succ g =>
   have hq0 := hq1.2
   rw [loopL_step] at hq0
   by_cases hs5 : sort = 5
   ·
    have h5b : (sort == 5) = true := by simpa using hs5
    rw [if_pos hs5] at hq0
    clear hs5
    cases hk : keyL t ks with
    | none =>
     rw [hk] at hq0
     have HE := Lib.hid hq0
     have Hk := Lib.hid hk
     clear hk hq0 hq1
     go_wp2_with fail
     refine (key_any b t _ sort w wr vs la lc ks ka kc hbl hR.out (by omega) (by omega) hP.out).mono ?_
     rw [Hk.out]
     rintro e' w6 ⟨rfl, t6, ks6, ka6, kc6, hr6, hp6⟩
     have HP6 := Lib.hid hp6
     have HR6 := Lib.hid hr6
     clear hp6 hr6 b0
     have q0 := HP6.out.res.cell 0
     have q1 := HP6.out.res.cell 1
     have q2 := HP6.out.res.cell 2
     have q3 := HP6.out.res.cell 3
     have q4 := HP6.out.res.cell 4
     have q5 := HP6.out.res.cell 5
     have g0 := HP6.out.res.free 0
     have g1 := HP6.out.res.free 1
     have g2 := HP6.out.res.free 2
     have g3 := HP6.out.res.free 3
     have g4 := HP6.out.res.free 4
     have g5 := HP6.out.res.free 5
     unfold zeroV at q0 q1 q2 q3 q4 q5
     simp only [List.getElem?_toArray, List.getElem?_cons_zero, List.getElem?_cons_succ] at q0 q1 q2 q3 q4 q5
     go_wp2
     refine leaves_dec (n0 := w.heap.size) (g := w.heap.size + 1) (b := b) (s := t6) (o := ((o : Int) + 1) - 1) rfl rfl (store6 HP6.out.res) (HP6.out.box.other6 (by omega)) ?_ (by omega) (by omega) (by omega) ?_
     ·
      have := HR6.out.put6 (g := w.heap.size + 1) (by omega) (.int .i64 0) (.bool false) (.int .i64 0) (.string { data := #[] }) (.slice none 0 0) (.slice none 0 0)
      rw [show ((o : Int) + 1) - 1 + 1 = ((o : Int) + 1) by omega]
      exact this
     ·
      exact vaE_err HE.out ((HP6.out.keep.put6 (by omega) _ _ _ _ _ _).open _) ((HR6.out.put6 (by omega) _ _ _ _ _ _).open _) (by omega) (by omega)
    | some p =>
     obtain ⟨k, r⟩ := p
     rw [hk] at hq0
     simp only at hq0
     have hkl0 := keyL_len hk
     have hq2 : g ≤ f ∧ res = elemL g (o + 1) sort e r (vs.map VD.v) (ks ++ [k]) := ⟨by have := hq1.1; omega, hq0⟩
     have Hk := Lib.hid hk
     clear hk hq0 hq1
     go_wp2_with fail
     refine (key_any b t _ sort w wr vs la lc ks ka kc hbl hR.out (by omega) (by omega) hP.out).mono ?_
     rw [Hk.out]
     rintro e' w5 ⟨rfl, ka5, kc5, hr5, hp5⟩
     obtain ⟨kn, hkn⟩ : ∃ kn, kn = ks ++ [k] := ⟨_, rfl⟩
     rw [← hkn] at hp5 hq2
     have hknl : kn.length ≤ ks.length + 1 := by rw [hkn, List.length_append, List.length_singleton]; omega
     clear hkn
     have HP5 := Lib.hid hp5
     have HR5 := Lib.hid hr5
     have hrs : r.length ≤ 1048576 := by omega
     have hvs5 : vs.length + r.length ≤ 1048576 := by omega
     clear hp5 hr5 b0
     have b0 := HP5.out.box.cell 0
     simp only [List.getElem?_toArray, List.getElem?_cons_zero] at b0
     cases g with
     | zero => exact absurd (by rw [hq2.2]; simp [elemL]) Hne.out
     | succ g =>
      have hg2 := hq2.2
      rw [elemL_step] at hg2
      have hnv : valL g (o + 1) r ≠ .out := fun hv => Hne.out (by rw [hg2, hv])
      have hcall := HV.out g (by have := hq2.1; omega) b r (o + 1) w5 (HP5.out.keep.glob HG.out hb8) hb8 (by have := HR5.out; simpa using this) (by omega) (by omega) hnv
      have Hcall := Lib.hid hcall
      have Hg2 := Lib.hid hg2
      have Hgf : Hid (g + 1 ≤ f) := Lib.hid (by have := hq2.1; omega)
      clear hq2 hg2 hcall hnv
      go_wp2_with fail
      refine Hcall.out.mono ?_
      clear Hcall
      cases hv : valL g (o + 1) r with
      | out => exact absurd (by rw [Hg2.out, hv]) Hne.out
      | err k =>
       rintro e' w6 ⟨d, t6, o6, rfl, hk6, hr6, ho6, ho7⟩
       have HP6 := Lib.hid (HP5.out.turn hbl hk6)
       have HR6 := Lib.hid hr6
       have hE : res = .err k := by rw [Hg2.out, hv]
       have HE := Lib.hid hE
       have hk12 := (read_err g).1 _ _ _ hv
       have hkn : (k != 0) = true := by rcases hk12 with rfl | rfl <;> rfl
       have ho8 : (o : Int) + 1 ≤ o6 := by push_cast at ho6; omega
       have ho9 : o6 ≤ (o : Int) + 2 := by push_cast at ho7; omega
       rw [VD.val_eq']
       obtain ⟨w7, hw7⟩ : ∃ w7, w7 = w6.alloc (.cells #[.int .i64 d.sort, .bool d.on, .int .i64 d.n, .string ⟨d.text.toArray⟩, .slice d.a d.list.length d.c, .slice d.ka d.keys.length d.kc] 36) := ⟨_, rfl⟩
       have hb7 : Below w6.heap.size w6 w7 := by rw [hw7]; exact below_a1 _ _
       have HP7 := Lib.hid (HP6.out.ext hbl hb7)
       have HR7 := Lib.hid (HR6.out.ext hb7)
       have Hw7 := Lib.hid hw7
       clear hk6 hr6 hE hv ho6 ho7 hk12 hb7 hw7
       go_upto_region 14 with (fail)
       rw [← Hw7.out]
       clear Hw7
       have q0 := HP7.out.res.cell 0
       have q1 := HP7.out.res.cell 1
       have q2 := HP7.out.res.cell 2
       have q3 := HP7.out.res.cell 3
       have q4 := HP7.out.res.cell 4
       have q5 := HP7.out.res.cell 5
       have g0 := HP7.out.res.free 0
       have g1 := HP7.out.res.free 1
       have g2 := HP7.out.res.free 2
       have g3 := HP7.out.res.free 3
       have g4 := HP7.out.res.free 4
       have g5 := HP7.out.res.free 5
       unfold zeroV at q0 q1 q2 q3 q4 q5
       simp only [List.getElem?_toArray, List.getElem?_cons_zero, List.getElem?_cons_succ] at q0 q1 q2 q3 q4 q5
       go_wp2
       refine leaves_dec (n0 := w.heap.size) (g := w.heap.size + 1) (b := b) (s := t6) (o := o6 - 1) rfl rfl (store6 HP7.out.res) (HP7.out.box.other6 (by omega)) ?_ (by omega) (by omega) (by omega) ?_
       ·
        have := HR7.out.put6 (g := w.heap.size + 1) (by omega) (.int .i64 0) (.bool false) (.int .i64 0) (.string { data := #[] }) (.slice none 0 0) (.slice none 0 0)
        rw [show o6 - 1 + 1 = o6 by omega]
        exact this
       ·
        exact vaE_err HE.out ((HP7.out.keep.put6 (by omega) _ _ _ _ _ _).open _) ((HR7.out.put6 (by omega) _ _ _ _ _ _).open _) (by omega) (by omega)
      | ok x r2 =>
       rintro e' w6 ⟨d, rfl, hdv, hda, hk6, hr6⟩
       rw [VD.val_eq']
       have hp6 := HP5.out.turn hbl hk6
       have hg3 : res = (match takes [e] r2 with | some r => .ok (.mk sort false 0 [] (vs.map VD.v ++ [x]) kn) r | none => match takes [44] r2 with | some r => loopL g (o + 1) sort e r (vs.map VD.v ++ [x]) kn | none => .err 21) := by first | (rw [Hg2.out, hv]; done) | (rw [Hg2.out, hv]; rfl)
       have hlen6 := (read_len g).1 _ _ _ _ hv
       have hr6' : RdAt w6 b r2 ((o : Int) + 1) := by simpa using hr6
       have hfr : ∀ k, w5.heap.size ≤ k → w.heap.size + 3 ≤ k ∧ rowOf la lc ≠ some k ∧ rowOf ka5 kc5 ≠ some k := fun k hk => ⟨by have := HP5.out.blk.lt; omega, fun e => own_new HP5.out.own hk e.symm, fun e => own_new HP5.out.kown hk e.symm⟩
       have hda2 := hda.mono (q := fun k => w.heap.size + 3 ≤ k ∧ rowOf la lc ≠ some k ∧ rowOf ka5 kc5 ≠ some k) fun k hk _ => hfr k hk
       have Hdv := Lib.hid hdv
       have Hg3 := Lib.hid hg3
       have hls6 := hp6.blk.lt
       obtain ⟨w7, hw7⟩ : ∃ w7, w7 = w6.alloc (.cells #[.int .i64 d.sort, .bool d.on, .int .i64 d.n, .string ⟨d.text.toArray⟩, .slice d.a d.list.length d.c, .slice d.ka d.keys.length d.kc] 36) := ⟨_, rfl⟩
       have hb7 : Below w6.heap.size w6 w7 := by rw [hw7]; exact below_a1 _ _
       have hs7 : w7.heap.size = w6.heap.size + 1 := by rw [hw7]; simp
       obtain ⟨xb, hxb⟩ : ∃ xb, xb = w6.heap.size := ⟨_, rfl⟩
       have hx7 : Six w7 xb d := by
        have hbx : Blk w7 w6.heap.size #[.int .i64 d.sort, .bool d.on, .int .i64 d.n, .string ⟨d.text.toArray⟩, .slice d.a d.list.length d.c, .slice d.ka d.keys.length d.kc] 36 := by rw [hw7]; exact Blk.new rfl
        rw [hxb]
        exact ⟨hbx.cell 0, hbx.cell 1, hbx.cell 2, hbx.cell 3, hbx.cell 4, hbx.cell 5⟩
       have HX := Lib.hid hx7
       have HP7 := Lib.hid (hp6.ext hbl hb7)
       have HR7 := Lib.hid (hr6'.ext hb7)
       have HD7 := Lib.hid (hda2.ext hb7)
       have Hxr : Hid (some xb ≠ rowOf la lc) := Lib.hid (by rw [hxb]; exact own_new hp6.own (Nat.le_refl _))
       have Hxl : Hid (xb < w7.heap.size) := Lib.hid (by omega)
       have Hxs : Hid (xb < w7.heap.size) := Lib.hid (by omega)
       have Hxl2 : Hid (w.heap.size + 2 < xb) := Lib.hid (by omega)
       have hcap := hp6.own.le
       have hw73 : w.heap.size + 3 ≤ w7.heap.size := by omega
       have hvl : vs.length + r2.length ≤ 1048576 := by omega
       have hkl : kn.length + r2.length ≤ 1048576 := by omega
       have l4' := HP7.out.blk.cell 4
       simp only [List.getElem?_toArray, List.getElem?_cons_zero, List.getElem?_cons_succ] at l4'
       have Hw7 := Lib.hid hw7
       have Hxb := Lib.hid hxb
       clear hk6 hr6 hr6' hp6 hg3 hdv hda hda2 hv hfr hb7 hs7 hx7 hls6 hw7 hxb
       go_upto_region 16 with (fail)
       rw [← Hw7.out, ← Hxb.out]
       clear Hw7 Hxb
       refine wp_region_held_drew (S := fun w' => Six w' xb d) (by kernel_rfl) ?_ (fun hHeld => ?_)
       ·
        exact HX.out
       refine wpAnyH_take (i := 0) (oi := ⟨some 55, _, _, _, _, _⟩) (v := ?_) rfl (by kernel_rfl) (by kernel_rfl) (by kernel_rfl) (fun _ _ _ h => h) (Or.inl ⟨by rfl, ?_⟩) (by assumption) ?_; rotate_left; focus (intro w hSw; (try dsimp only at hSw); first | (go_simp; done) | (go_simp; with_reducible rfl))
       try simp only [Act.put, List.setIfInBounds_toArray, List.set_cons_succ, List.set_cons_zero]
       refine wpAnyH_take (i := 2) (oi := ⟨some 57, _, _, _, _, _⟩) (v := ?_) rfl (by kernel_rfl) (by kernel_rfl) (by kernel_rfl) (fun _ _ _ h => h) (Or.inl ⟨by rfl, ?_⟩) (by assumption) ?_; rotate_left; focus (intro w hSw; (try dsimp only at hSw); (obtain ⟨y0, y1, y2, y3, y4, y5⟩ := hSw; first | (go_simp; done) | (go_simp; with_reducible rfl)))
       try simp only [Act.put, List.setIfInBounds_toArray, List.set_cons_succ, List.set_cons_zero]
       refine wpAnyH_ready (rs := [1, 4]) (by kernel_rfl) (by simp) ?_
       refine AllReadyH.cons (i := 1) (o := ⟨some 56, _, _, _, _, _⟩) rfl (fun K hK => ?_) ?_
       ·
        go_simp
        refine hK.out _ _ ?_ (fun hHeld => ?_)
        ·
         exact hHeld
        try simp only [Act.put, List.setIfInBounds_toArray, List.set_cons_succ, List.set_cons_zero]
        refine wpAnyH_take (i := 3) (oi := ⟨some 58, _, _, _, _, _⟩) (v := ?_) rfl (by kernel_rfl) (by kernel_rfl) (by kernel_rfl) (fun _ _ _ h => h) (Or.inl ⟨by rfl, ?_⟩) (by assumption) ?_; rotate_left; focus (intro w hSw; (try dsimp only at hSw); first | (go_simp; done) | (go_simp; with_reducible rfl))
        try simp only [Act.put, List.setIfInBounds_toArray, List.set_cons_succ, List.set_cons_zero]
        refine wpAnyH_ready (rs := [4]) (by kernel_rfl) (by simp) ?_
        refine AllReadyH.cons (i := 4) (o := ⟨some 59, _, _, _, _, _⟩) rfl (fun K hK => ?_) ?_
        ·
         go_simp
         refine hK.out _ _ ?_ (fun hHeld => ?_)
         ·
          exact hHeld.ext (below_a1 _ _)
         try simp only [Act.put, List.setIfInBounds_toArray, List.set_cons_succ, List.set_cons_zero]
         refine wpAnyH_ready (rs := [5]) (by kernel_rfl) (by simp) ?_
         refine AllReadyH.cons (i := 5) (o := ⟨some 60, _, _, _, _, _⟩) rfl (fun K hK => ?_) ?_
         ·
          refine step_append_Own rfl (.tmp 56) (.tmp 59) 34 rfl (w.heap.size + 3) 36 _ 6 88 Tryz.underlying34 Tryz.infoVal rfl (by decide) la vs.length lc _ (by simp [go_sem]) (by exact HP7.out.own.alloc _) _ 1 1 [.int .i64 0, .bool false, .int .i64 0, .string { data := #[] }, .slice none 0 0, .slice none 0 0] (by simp [go_sem]; rfl) (by exact Row.new1 (by simp) rfl rfl) (by intro u hu; simp at hu; rcases hu with rfl | rfl | rfl | rfl | rfl | rfl <;> rfl) (by unfold maxLen; omega) (by omega) (by simp; omega) ?_
          intro a5 c5 w8 hown8 hg8 hbk8
          obtain ⟨gb, off, rfl⟩ := hown8.addr (by have := hown8.le; omega)
          obtain ⟨⟨s0, s1, s2, s3, s4, s5⟩, ⟨z0, z1, z2, z3, z4, z5⟩, hgb⟩ := hown8.slots6
          have hv8 : Blk w8 (w.heap.size + 2) #[.int .i64 sort, .bool false, .int .i64 0, .string { data := #[] }, .slice la vs.length lc, .slice ka5 kn.length kc5] 36 := by
           first
            | exact Blk.grown (Blk.drew (Blk.alloc HP7.out.blk _)) hg8 (HP7.out.own.apart (by omega))
            | exact Blk.grown (Blk.alloc HP7.out.blk _) hg8 (HP7.out.own.apart (by omega))
            | exact Blk.grown (Blk.alloc (Blk.drew HP7.out.blk) _) hg8 (HP7.out.own.apart (by omega))
          have l4 := hv8.cell 4
          have m4 := hv8.free 4
          simp only [List.getElem?_toArray, List.getElem?_cons_zero, List.getElem?_cons_succ] at l4
          have hgv : gb ≠ w.heap.size + 2 := by omega
          have hxg : xb ≠ gb := by
           intro he
           have hr8 : rowOf (some ⟨gb, off, none⟩) c5 = some gb := by first | (rw [rowOf_pos (by have := hown8.le; omega)]; done) | (rw [rowOf_pos (by have := hown8.le; omega)]; rfl)
           rcases hbk8 with h | h
           ·
            exact Hxr.out (by rw [← h, hr8, he])
           ·
            rw [hr8] at h; injection h with h; have := Hxs.out; simp at h; omega
          have hgf := grown_from (w7 := w7) (by first | exact below_a1 w7 _ | exact (below_a1 w7 _).drew | exact (Below.refl _ w7).drew.alloc (Nat.le_refl _) _) hg8 hbk8
          have Hown8 := Lib.hid hown8
          have Hg8 := Lib.hid hg8
          have Hgf8 := Lib.hid hgf
          clear hown8 hg8 hbk8 hv8 hgf
          refine hK.out _ _ ?_ (fun hHeld => ?_)
          ·
           exact (hHeld).block (Hg8.out.block xb (by have := Hxl.out; simp; omega) Hxr.out)
          try simp only [Act.put, List.setIfInBounds_toArray, List.set_cons_succ, List.set_cons_zero]
          refine wpAnyH_take (i := 6) (oi := ⟨some 61, _, _, _, _, _⟩) (v := ?_) rfl (by kernel_rfl) (by kernel_rfl) (by kernel_rfl) (fun _ _ _ h => h) (Or.inl ⟨by rfl, ?_⟩) (by assumption) ?_; rotate_left; focus (intro w hSw; (try dsimp only at hSw); (have hlt1 : ((vs.length : Int) < (vs.length : Int) + 1) = True := eq_true (by omega); first | (go_simp; done) | (go_simp; with_reducible rfl)))
          try simp only [Act.put, List.setIfInBounds_toArray, List.set_cons_succ, List.set_cons_zero]
          refine wpAnyH_take (i := 8) (oi := ⟨some 62, _, _, _, _, _⟩) (v := ?_) rfl (by kernel_rfl) (by kernel_rfl) (by kernel_rfl) (fun _ _ _ h => h) (Or.inl ⟨by rfl, ?_⟩) (by assumption) ?_; rotate_left; focus (intro w hSw; (try dsimp only at hSw); first | (go_simp; done) | (go_simp; with_reducible rfl))
          try simp only [Act.put, List.setIfInBounds_toArray, List.set_cons_succ, List.set_cons_zero]
          refine wpAnyH_ready (rs := [7, 9]) (by kernel_rfl) (by simp) ?_
          refine AllReadyH.cons (i := 7) (o := ⟨none, _, _, _, _, _⟩) rfl (fun K hK => ?_) ?_
          ·
           go_simp
           refine hK.out _ _ ?_ (fun hHeld => ?_)
           ·
            exact hHeld.block (put6_other (g := gb) (o := off + vs.length * 6) hxg)
           try simp only [Act.put, List.setIfInBounds_toArray, List.set_cons_succ, List.set_cons_zero]
           refine wpAnyH_ready (rs := [9]) (by kernel_rfl) (by simp) ?_
           refine AllReadyH.cons (i := 9) (o := ⟨none, _, _, _, _, _⟩) rfl (fun K hK => ?_) ?_
           ·
            go_simp
            refine hK.out _ _ ?_ (fun hHeld => ?_)
            ·
             exact hHeld.block (Below.heap_setCell _ ⟨w.heap.size + 2, 4, none⟩ _ xb (by show xb ≠ w.heap.size + 2; have := Hxl2.out; omega))
            try simp only [Act.put, List.setIfInBounds_toArray, List.set_cons_succ, List.set_cons_zero]
            refine wpAnyH_done (by kernel_rfl) ?_ _
            have hP9 := HP7.out.pushVal (w' := put6 w8 gb (off + vs.length * 6) (.int .i64 d.sort) (.bool d.on) (.int .i64 d.n) (.string ⟨d.text.toArray⟩) (.slice d.a d.list.length d.c) (.slice d.ka d.keys.length d.kc)) (x := d) HD7.out (Own.put6 d Hown8.out)
             (fun j hj h1 h2 => (put6_other (fun e => h2 (by rw [rowOf_pos (by have := Hown8.out.le; omega), e]; rfl))).trans (Hgf8.out.1 j hj h1)) (put6_below Hgf8.out.2.1 (Nat.zero_le _)) Hgf8.out.2.2
            have hbg : b ≠ gb := by omega
            have hR9 : RdAt ((put6 w8 gb (off + vs.length * 6) (.int .i64 d.sort) (.bool d.on) (.int .i64 d.n) (.string ⟨d.text.toArray⟩) (.slice d.a d.list.length d.c) (.slice d.ka d.keys.length d.kc)).setCell ⟨w.heap.size + 2, 4, none⟩ (.slice (some ⟨gb, off, none⟩) (vs.length + 1) c5)) b r2 ((o : Int) + 1) :=
             Blk.other (p := ⟨w.heap.size + 2, 4, none⟩) ((put6_other hbg).trans ((Hgf8.out.1 b (Blk.lt HR7.out) (HP7.out.own.apart (by omega))).trans HR7.out)) (by show b ≠ w.heap.size + 2; omega) _
            obtain ⟨W9, hW9⟩ : ∃ W9, W9 = (((((((w8.setCell ⟨gb, off + vs.length * 6, none⟩ (.int .i64 d.sort)).setCell ⟨gb, off + vs.length * 6 + 1, none⟩ (.bool d.on)).setCell ⟨gb, off + vs.length * 6 + 2, none⟩ (.int .i64 d.n)).setCell ⟨gb, off + vs.length * 6 + 3, none⟩ (.string ⟨d.text.toArray⟩)).setCell ⟨gb, off + vs.length * 6 + 4, none⟩ (.slice d.a d.list.length d.c)).setCell ⟨gb, off + vs.length * 6 + 5, none⟩ (.slice d.ka d.keys.length d.kc)).setCell ⟨w.heap.size + 1 + 1, 4, none⟩ (.slice (some ⟨gb, off, none⟩) (vs.length + 1) c5)) := ⟨_, rfl⟩
            rw [← hW9]
            have HP9 : Hid (PV w W9 b sort (vs ++ [d]) (some ⟨gb, off, none⟩) c5 kn ka5 kc5) := Lib.hid (by rw [hW9]; exact hP9)
            have HR9 : Hid (RdAt W9 b r2 ((o : Int) + 1)) := Lib.hid (by rw [hW9]; exact hR9)
            clear hP9 hR9 hW9 hbg s0 s1 s2 s3 s4 s5 z0 z1 z2 z3 z4 z5 hgb l4 m4 hgv hxg Hown8 Hg8 Hgf8 HX Hxr Hxl Hxs Hxl2 HP7 HR7 HD7 l4'
            have b0 := HP9.out.box.cell 0
            simp only [List.getElem?_toArray, List.getElem?_cons_zero] at b0
            cases ht : takes [e] r2 with
            | some r3 =>
             have hE : res = .ok (.mk sort false 0 [] ((vs ++ [d]).map VD.v) kn) r3 := by rw [Hg3.out, ht, List.map_append, List.map_singleton, Hdv.out]
             have HE := Lib.hid hE
             have HT := Lib.hid ht
             clear hE ht
             go_wp2_with fail
             refine (takes_yes b r2 [e] r3 _ W9 HR9.out HT.out).mono ?_
             rintro e' W10 ⟨rfl, hk10, hr10⟩
             have hp10 := HP9.out.turn hbl hk10
             have HR10 := Lib.hid hr10
             have HP10 := Lib.hid hp10
             have v0 := hp10.blk.cell 0
             have v1 := hp10.blk.cell 1
             have v2 := hp10.blk.cell 2
             have v3 := hp10.blk.cell 3
             have v4 := hp10.blk.cell 4
             have v5 := hp10.blk.cell 5
             simp only [List.getElem?_toArray, List.getElem?_cons_zero, List.getElem?_cons_succ] at v0 v1 v2 v3 v4 v5
             rw [List.length_append, List.length_singleton] at v4
             clear hk10 hr10 b0 hp10
             have q0 := HP10.out.res.cell 0
             have q1 := HP10.out.res.cell 1
             have q2 := HP10.out.res.cell 2
             have q3 := HP10.out.res.cell 3
             have q4 := HP10.out.res.cell 4
             have q5 := HP10.out.res.cell 5
             have g0 := HP10.out.res.free 0
             have g1 := HP10.out.res.free 1
             have g2 := HP10.out.res.free 2
             have g3 := HP10.out.res.free 3
             have g4 := HP10.out.res.free 4
             have g5 := HP10.out.res.free 5
             unfold zeroV at q0 q1 q2 q3 q4 q5
             simp only [List.getElem?_toArray, List.getElem?_cons_zero, List.getElem?_cons_succ] at q0 q1 q2 q3 q4 q5
             go_wp2
             have hfin := vaE_parts (o := o) HE.out HP10.out hbl HR10.out
             rw [List.length_append, List.length_singleton] at hfin
             exact leaves_dec (n0 := w.heap.size) (g := w.heap.size + 1) (b := b) (s := r3) (o := o) rfl rfl (store6 HP10.out.res) (HP10.out.box.other6 (by omega)) (HR10.out.put6 (by omega) _ _ _ _ _ _) hoj (by omega) (by omega) hfin
            | none =>
             have hg4 : res = match takes [44] r2 with | some r => loopL g (o + 1) sort e r (vs.map VD.v ++ [x]) kn | none => .err 21 := by rw [Hg3.out, ht]
             have Hg4 := Lib.hid hg4
             have HT := Lib.hid ht
             clear hg4 ht
             go_wp2_with fail
             refine (takes_no b r2 [e] _ W9 HR9.out HT.out).mono ?_
             rintro e' W10 ⟨rfl, hk10, hr10⟩
             have HP10 := Lib.hid (HP9.out.turn hbl hk10)
             have HR10 := Lib.hid hr10
             clear hk10 hr10 b0
             have b0 := HP10.out.box.cell 0
             simp only [List.getElem?_toArray, List.getElem?_cons_zero] at b0
             cases ht2 : takes [44] r2 with
             | none =>
              have hE : res = .err 21 := by rw [Hg4.out, ht2]
              have HE := Lib.hid hE
              have HT2 := Lib.hid ht2
              clear hE ht2
              go_wp2_with fail
              refine (takes_no b r2 [44] _ W10 HR10.out HT2.out).mono ?_
              rintro e' W11 ⟨rfl, hk11, hr11⟩
              have HP11 := Lib.hid (HP10.out.turn hbl hk11)
              have HR11 := Lib.hid hr11
              clear hk11 hr11 b0
              have q0 := HP11.out.res.cell 0
              have q1 := HP11.out.res.cell 1
              have q2 := HP11.out.res.cell 2
              have q3 := HP11.out.res.cell 3
              have q4 := HP11.out.res.cell 4
              have q5 := HP11.out.res.cell 5
              have g0 := HP11.out.res.free 0
              have g1 := HP11.out.res.free 1
              have g2 := HP11.out.res.free 2
              have g3 := HP11.out.res.free 3
              have g4 := HP11.out.res.free 4
              have g5 := HP11.out.res.free 5
              unfold zeroV at q0 q1 q2 q3 q4 q5
              simp only [List.getElem?_toArray, List.getElem?_cons_zero, List.getElem?_cons_succ] at q0 q1 q2 q3 q4 q5
              go_wp2
              refine leaves_dec (n0 := w.heap.size) (g := w.heap.size + 1) (b := b) (s := r2) (o := ((o : Int) + 1) - 1) rfl rfl (store6 HP11.out.res) (HP11.out.box.other6 (by omega)) ?_ (by omega) (by omega) (by omega) ?_
              ·
               have := HR11.out.put6 (g := w.heap.size + 1) (by omega) (.int .i64 0) (.bool false) (.int .i64 0) (.string { data := #[] }) (.slice none 0 0) (.slice none 0 0)
               rw [show ((o : Int) + 1) - 1 + 1 = ((o : Int) + 1) by omega]
               exact this
              ·
               exact vaE_err HE.out ((HP11.out.keep.put6 (by omega) _ _ _ _ _ _).open _) ((HR11.out.put6 (by omega) _ _ _ _ _ _).open _) (by omega) (by omega)
             | some r4 =>
              have hE : g ≤ f ∧ res = loopL g (o + 1) sort e r4 ((vs ++ [d]).map VD.v) kn := ⟨by have := Hgf.out; omega, by rw [Hg4.out, ht2, List.map_append, List.map_singleton, Hdv.out]⟩
              have HE := Lib.hid hE
              have hl4 := takes_len ht2
              have HT2 := Lib.hid ht2
              clear hE ht2
              go_wp2_with fail
              refine (takes_yes b r2 [44] r4 _ W10 HR10.out HT2.out).mono ?_
              rintro e' W11 ⟨rfl, hk11, hr11⟩
              have HP11 := Lib.hid (HP10.out.turn hbl hk11)
              have HR11 := Lib.hid hr11
              have Hm : Hid (leftAt W11 b < leftAt wr b) := Lib.hid (by rw [leftAt_of HR11.out, leftAt_of hR.out]; simp only [List.length_singleton] at hl4; omega)
              have hvl' : (vs ++ [d]).length + r4.length ≤ 1048576 := by rw [List.length_append, List.length_singleton]; simp only [List.length_singleton] at hl4; omega
              have hkl' : kn.length + r4.length ≤ 1048576 := by omega
              clear hk11 hr11 b0
              go_wp2
              go_roundw
              case rel => exact ⟨g, r4, vs ++ [d], some ⟨gb, off, none⟩, c5, kn, ka5, kc5, HE, HP11, HR11, hvl', hkl'⟩
              case measure => exact Hm.out
           exact AllReadyH.nil
          refine AllReadyH.cons (i := 9) (o := ⟨none, _, _, _, _, _⟩) rfl (fun K hK => ?_) ?_
          ·
           go_simp
           refine hK.out _ _ ?_ (fun hHeld => ?_)
           ·
            exact hHeld.block (Below.heap_setCell _ ⟨w.heap.size + 2, 4, none⟩ _ xb (by show xb ≠ w.heap.size + 2; have := Hxl2.out; omega))
           try simp only [Act.put, List.setIfInBounds_toArray, List.set_cons_succ, List.set_cons_zero]
           refine wpAnyH_ready (rs := [7]) (by kernel_rfl) (by simp) ?_
           refine AllReadyH.cons (i := 7) (o := ⟨none, _, _, _, _, _⟩) rfl (fun K hK => ?_) ?_
           ·
            go_simp
            refine hK.out _ _ ?_ (fun hHeld => ?_)
            ·
             exact hHeld.block (put6_other (g := gb) (o := off + vs.length * 6) hxg)
            try simp only [Act.put, List.setIfInBounds_toArray, List.set_cons_succ, List.set_cons_zero]
            refine wpAnyH_done (by kernel_rfl) ?_ _
            have hP9 := HP7.out.pushVal (w' := put6 w8 gb (off + vs.length * 6) (.int .i64 d.sort) (.bool d.on) (.int .i64 d.n) (.string ⟨d.text.toArray⟩) (.slice d.a d.list.length d.c) (.slice d.ka d.keys.length d.kc)) (x := d) HD7.out (Own.put6 d Hown8.out)
             (fun j hj h1 h2 => (put6_other (fun e => h2 (by rw [rowOf_pos (by have := Hown8.out.le; omega), e]; rfl))).trans (Hgf8.out.1 j hj h1)) (put6_below Hgf8.out.2.1 (Nat.zero_le _)) Hgf8.out.2.2
            have hbg : b ≠ gb := by omega
            have hR9 : RdAt ((put6 w8 gb (off + vs.length * 6) (.int .i64 d.sort) (.bool d.on) (.int .i64 d.n) (.string ⟨d.text.toArray⟩) (.slice d.a d.list.length d.c) (.slice d.ka d.keys.length d.kc)).setCell ⟨w.heap.size + 2, 4, none⟩ (.slice (some ⟨gb, off, none⟩) (vs.length + 1) c5)) b r2 ((o : Int) + 1) :=
             Blk.other (p := ⟨w.heap.size + 2, 4, none⟩) ((put6_other hbg).trans ((Hgf8.out.1 b (Blk.lt HR7.out) (HP7.out.own.apart (by omega))).trans HR7.out)) (by show b ≠ w.heap.size + 2; omega) _
            rw [← put6_comm (q := ⟨w.heap.size + 2, 4, none⟩) hgv] at hP9 hR9
            obtain ⟨W9, hW9⟩ : ∃ W9, W9 = (((((((w8.setCell ⟨w.heap.size + 1 + 1, 4, none⟩ (.slice (some ⟨gb, off, none⟩) (vs.length + 1) c5)).setCell ⟨gb, off + vs.length * 6, none⟩ (.int .i64 d.sort)).setCell ⟨gb, off + vs.length * 6 + 1, none⟩ (.bool d.on)).setCell ⟨gb, off + vs.length * 6 + 2, none⟩ (.int .i64 d.n)).setCell ⟨gb, off + vs.length * 6 + 3, none⟩ (.string ⟨d.text.toArray⟩)).setCell ⟨gb, off + vs.length * 6 + 4, none⟩ (.slice d.a d.list.length d.c)).setCell ⟨gb, off + vs.length * 6 + 5, none⟩ (.slice d.ka d.keys.length d.kc)) := ⟨_, rfl⟩
            rw [← hW9]
            have HP9 : Hid (PV w W9 b sort (vs ++ [d]) (some ⟨gb, off, none⟩) c5 kn ka5 kc5) := Lib.hid (by rw [hW9]; exact hP9)
            have HR9 : Hid (RdAt W9 b r2 ((o : Int) + 1)) := Lib.hid (by rw [hW9]; exact hR9)
            clear hP9 hR9 hW9 hbg s0 s1 s2 s3 s4 s5 z0 z1 z2 z3 z4 z5 hgb l4 m4 hgv hxg Hown8 Hg8 Hgf8 HX Hxr Hxl Hxs Hxl2 HP7 HR7 HD7 l4'
            have b0 := HP9.out.box.cell 0
            simp only [List.getElem?_toArray, List.getElem?_cons_zero] at b0
            cases ht : takes [e] r2 with
            | some r3 =>
             have hE : res = .ok (.mk sort false 0 [] ((vs ++ [d]).map VD.v) kn) r3 := by rw [Hg3.out, ht, List.map_append, List.map_singleton, Hdv.out]
             have HE := Lib.hid hE
             have HT := Lib.hid ht
             clear hE ht
             go_wp2_with fail
             refine (takes_yes b r2 [e] r3 _ W9 HR9.out HT.out).mono ?_
             rintro e' W10 ⟨rfl, hk10, hr10⟩
             have hp10 := HP9.out.turn hbl hk10
             have HR10 := Lib.hid hr10
             have HP10 := Lib.hid hp10
             have v0 := hp10.blk.cell 0
             have v1 := hp10.blk.cell 1
             have v2 := hp10.blk.cell 2
             have v3 := hp10.blk.cell 3
             have v4 := hp10.blk.cell 4
             have v5 := hp10.blk.cell 5
             simp only [List.getElem?_toArray, List.getElem?_cons_zero, List.getElem?_cons_succ] at v0 v1 v2 v3 v4 v5
             rw [List.length_append, List.length_singleton] at v4
             clear hk10 hr10 b0 hp10
             have q0 := HP10.out.res.cell 0
             have q1 := HP10.out.res.cell 1
             have q2 := HP10.out.res.cell 2
             have q3 := HP10.out.res.cell 3
             have q4 := HP10.out.res.cell 4
             have q5 := HP10.out.res.cell 5
             have g0 := HP10.out.res.free 0
             have g1 := HP10.out.res.free 1
             have g2 := HP10.out.res.free 2
             have g3 := HP10.out.res.free 3
             have g4 := HP10.out.res.free 4
             have g5 := HP10.out.res.free 5
             unfold zeroV at q0 q1 q2 q3 q4 q5
             simp only [List.getElem?_toArray, List.getElem?_cons_zero, List.getElem?_cons_succ] at q0 q1 q2 q3 q4 q5
             go_wp2
             have hfin := vaE_parts (o := o) HE.out HP10.out hbl HR10.out
             rw [List.length_append, List.length_singleton] at hfin
             exact leaves_dec (n0 := w.heap.size) (g := w.heap.size + 1) (b := b) (s := r3) (o := o) rfl rfl (store6 HP10.out.res) (HP10.out.box.other6 (by omega)) (HR10.out.put6 (by omega) _ _ _ _ _ _) hoj (by omega) (by omega) hfin
            | none =>
             have hg4 : res = match takes [44] r2 with | some r => loopL g (o + 1) sort e r (vs.map VD.v ++ [x]) kn | none => .err 21 := by rw [Hg3.out, ht]
             have Hg4 := Lib.hid hg4
             have HT := Lib.hid ht
             clear hg4 ht
             go_wp2_with fail
             refine (takes_no b r2 [e] _ W9 HR9.out HT.out).mono ?_
             rintro e' W10 ⟨rfl, hk10, hr10⟩
             have HP10 := Lib.hid (HP9.out.turn hbl hk10)
             have HR10 := Lib.hid hr10
             clear hk10 hr10 b0
             have b0 := HP10.out.box.cell 0
             simp only [List.getElem?_toArray, List.getElem?_cons_zero] at b0
             cases ht2 : takes [44] r2 with
             | none =>
              have hE : res = .err 21 := by rw [Hg4.out, ht2]
              have HE := Lib.hid hE
              have HT2 := Lib.hid ht2
              clear hE ht2
              go_wp2_with fail
              refine (takes_no b r2 [44] _ W10 HR10.out HT2.out).mono ?_
              rintro e' W11 ⟨rfl, hk11, hr11⟩
              have HP11 := Lib.hid (HP10.out.turn hbl hk11)
              have HR11 := Lib.hid hr11
              clear hk11 hr11 b0
              have q0 := HP11.out.res.cell 0
              have q1 := HP11.out.res.cell 1
              have q2 := HP11.out.res.cell 2
              have q3 := HP11.out.res.cell 3
              have q4 := HP11.out.res.cell 4
              have q5 := HP11.out.res.cell 5
              have g0 := HP11.out.res.free 0
              have g1 := HP11.out.res.free 1
              have g2 := HP11.out.res.free 2
              have g3 := HP11.out.res.free 3
              have g4 := HP11.out.res.free 4
              have g5 := HP11.out.res.free 5
              unfold zeroV at q0 q1 q2 q3 q4 q5
              simp only [List.getElem?_toArray, List.getElem?_cons_zero, List.getElem?_cons_succ] at q0 q1 q2 q3 q4 q5
              go_wp2
              refine leaves_dec (n0 := w.heap.size) (g := w.heap.size + 1) (b := b) (s := r2) (o := ((o : Int) + 1) - 1) rfl rfl (store6 HP11.out.res) (HP11.out.box.other6 (by omega)) ?_ (by omega) (by omega) (by omega) ?_
              ·
               have := HR11.out.put6 (g := w.heap.size + 1) (by omega) (.int .i64 0) (.bool false) (.int .i64 0) (.string { data := #[] }) (.slice none 0 0) (.slice none 0 0)
               rw [show ((o : Int) + 1) - 1 + 1 = ((o : Int) + 1) by omega]
               exact this
              ·
               exact vaE_err HE.out ((HP11.out.keep.put6 (by omega) _ _ _ _ _ _).open _) ((HR11.out.put6 (by omega) _ _ _ _ _ _).open _) (by omega) (by omega)
             | some r4 =>
              have hE : g ≤ f ∧ res = loopL g (o + 1) sort e r4 ((vs ++ [d]).map VD.v) kn := ⟨by have := Hgf.out; omega, by rw [Hg4.out, ht2, List.map_append, List.map_singleton, Hdv.out]⟩
              have HE := Lib.hid hE
              have hl4 := takes_len ht2
              have HT2 := Lib.hid ht2
              clear hE ht2
              go_wp2_with fail
              refine (takes_yes b r2 [44] r4 _ W10 HR10.out HT2.out).mono ?_
              rintro e' W11 ⟨rfl, hk11, hr11⟩
              have HP11 := Lib.hid (HP10.out.turn hbl hk11)
              have HR11 := Lib.hid hr11
              have Hm : Hid (leftAt W11 b < leftAt wr b) := Lib.hid (by rw [leftAt_of HR11.out, leftAt_of hR.out]; simp only [List.length_singleton] at hl4; omega)
              have hvl' : (vs ++ [d]).length + r4.length ≤ 1048576 := by rw [List.length_append, List.length_singleton]; simp only [List.length_singleton] at hl4; omega
              have hkl' : kn.length + r4.length ≤ 1048576 := by omega
              clear hk11 hr11 b0
              go_wp2
              go_roundw
              case rel => exact ⟨g, r4, vs ++ [d], some ⟨gb, off, none⟩, c5, kn, ka5, kc5, HE, HP11, HR11, hvl', hkl'⟩
              case measure => exact Hm.out
           exact AllReadyH.nil
          exact AllReadyH.nil
         exact AllReadyH.nil
        exact AllReadyH.nil
       refine AllReadyH.cons (i := 4) (o := ⟨some 59, _, _, _, _, _⟩) rfl (fun K hK => ?_) ?_
       ·
        go_simp
        refine hK.out _ _ ?_ (fun hHeld => ?_)
        ·
         exact hHeld.ext (below_a1 _ _)
        try simp only [Act.put, List.setIfInBounds_toArray, List.set_cons_succ, List.set_cons_zero]
        refine wpAnyH_ready (rs := [1]) (by kernel_rfl) (by simp) ?_
        refine AllReadyH.cons (i := 1) (o := ⟨some 56, _, _, _, _, _⟩) rfl (fun K hK => ?_) ?_
        ·
         have l4b : (w7.alloc (.cells #[.int .i64 0, .bool false, .int .i64 0, .string { data := #[] }, .slice none 0 0, .slice none 0 0] 36)).cell? ⟨w.heap.size + 2, 4, none⟩ = some (.slice la vs.length lc) := below_ext (below_a1 w7 _) l4'
         have l4c : (w7.drew.alloc (.cells #[.int .i64 0, .bool false, .int .i64 0, .string { data := #[] }, .slice none 0 0, .slice none 0 0] 36)).cell? ⟨w.heap.size + 2, 4, none⟩ = some (.slice la vs.length lc) := below_ext (below_a1 w7.drew _) l4'
         go_simp
         refine hK.out _ _ ?_ (fun hHeld => ?_)
         ·
          exact hHeld
         try simp only [Act.put, List.setIfInBounds_toArray, List.set_cons_succ, List.set_cons_zero]
         refine wpAnyH_take (i := 3) (oi := ⟨some 58, _, _, _, _, _⟩) (v := ?_) rfl (by kernel_rfl) (by kernel_rfl) (by kernel_rfl) (fun _ _ _ h => h) (Or.inl ⟨by rfl, ?_⟩) (by assumption) ?_; rotate_left; focus (intro w hSw; (try dsimp only at hSw); first | (go_simp; done) | (go_simp; with_reducible rfl))
         try simp only [Act.put, List.setIfInBounds_toArray, List.set_cons_succ, List.set_cons_zero]
         refine wpAnyH_ready (rs := [5]) (by kernel_rfl) (by simp) ?_
         refine AllReadyH.cons (i := 5) (o := ⟨some 60, _, _, _, _, _⟩) rfl (fun K hK => ?_) ?_
         ·
          refine step_append_Own rfl (.tmp 56) (.tmp 59) 34 rfl (w.heap.size + 3) 36 _ 6 88 Tryz.underlying34 Tryz.infoVal rfl (by decide) la vs.length lc _ (by simp [go_sem]) (by exact HP7.out.own.alloc _) _ 1 1 [.int .i64 0, .bool false, .int .i64 0, .string { data := #[] }, .slice none 0 0, .slice none 0 0] (by simp [go_sem]; rfl) (by exact Row.new1 (by simp) rfl rfl) (by intro u hu; simp at hu; rcases hu with rfl | rfl | rfl | rfl | rfl | rfl <;> rfl) (by unfold maxLen; omega) (by omega) (by simp; omega) ?_
          intro a5 c5 w8 hown8 hg8 hbk8
          obtain ⟨gb, off, rfl⟩ := hown8.addr (by have := hown8.le; omega)
          obtain ⟨⟨s0, s1, s2, s3, s4, s5⟩, ⟨z0, z1, z2, z3, z4, z5⟩, hgb⟩ := hown8.slots6
          have hv8 : Blk w8 (w.heap.size + 2) #[.int .i64 sort, .bool false, .int .i64 0, .string { data := #[] }, .slice la vs.length lc, .slice ka5 kn.length kc5] 36 := by
           first
            | exact Blk.grown (Blk.drew (Blk.alloc HP7.out.blk _)) hg8 (HP7.out.own.apart (by omega))
            | exact Blk.grown (Blk.alloc HP7.out.blk _) hg8 (HP7.out.own.apart (by omega))
            | exact Blk.grown (Blk.alloc (Blk.drew HP7.out.blk) _) hg8 (HP7.out.own.apart (by omega))
          have l4 := hv8.cell 4
          have m4 := hv8.free 4
          simp only [List.getElem?_toArray, List.getElem?_cons_zero, List.getElem?_cons_succ] at l4
          have hgv : gb ≠ w.heap.size + 2 := by omega
          have hxg : xb ≠ gb := by
           intro he
           have hr8 : rowOf (some ⟨gb, off, none⟩) c5 = some gb := by first | (rw [rowOf_pos (by have := hown8.le; omega)]; done) | (rw [rowOf_pos (by have := hown8.le; omega)]; rfl)
           rcases hbk8 with h | h
           ·
            exact Hxr.out (by rw [← h, hr8, he])
           ·
            rw [hr8] at h; injection h with h; have := Hxs.out; simp at h; omega
          have hgf := grown_from (w7 := w7) (by first | exact below_a1 w7 _ | exact (below_a1 w7 _).drew | exact (Below.refl _ w7).drew.alloc (Nat.le_refl _) _) hg8 hbk8
          have Hown8 := Lib.hid hown8
          have Hg8 := Lib.hid hg8
          have Hgf8 := Lib.hid hgf
          clear hown8 hg8 hbk8 hv8 hgf
          refine hK.out _ _ ?_ (fun hHeld => ?_)
          ·
           exact (hHeld).block (Hg8.out.block xb (by have := Hxl.out; simp; omega) Hxr.out)
          try simp only [Act.put, List.setIfInBounds_toArray, List.set_cons_succ, List.set_cons_zero]
          refine wpAnyH_take (i := 6) (oi := ⟨some 61, _, _, _, _, _⟩) (v := ?_) rfl (by kernel_rfl) (by kernel_rfl) (by kernel_rfl) (fun _ _ _ h => h) (Or.inl ⟨by rfl, ?_⟩) (by assumption) ?_; rotate_left; focus (intro w hSw; (try dsimp only at hSw); (have hlt1 : ((vs.length : Int) < (vs.length : Int) + 1) = True := eq_true (by omega); first | (go_simp; done) | (go_simp; with_reducible rfl)))
          try simp only [Act.put, List.setIfInBounds_toArray, List.set_cons_succ, List.set_cons_zero]
          refine wpAnyH_take (i := 8) (oi := ⟨some 62, _, _, _, _, _⟩) (v := ?_) rfl (by kernel_rfl) (by kernel_rfl) (by kernel_rfl) (fun _ _ _ h => h) (Or.inl ⟨by rfl, ?_⟩) (by assumption) ?_; rotate_left; focus (intro w hSw; (try dsimp only at hSw); first | (go_simp; done) | (go_simp; with_reducible rfl))
          try simp only [Act.put, List.setIfInBounds_toArray, List.set_cons_succ, List.set_cons_zero]
          refine wpAnyH_ready (rs := [7, 9]) (by kernel_rfl) (by simp) ?_
          refine AllReadyH.cons (i := 7) (o := ⟨none, _, _, _, _, _⟩) rfl (fun K hK => ?_) ?_
          ·
           go_simp
           refine hK.out _ _ ?_ (fun hHeld => ?_)
           ·
            exact hHeld.block (put6_other (g := gb) (o := off + vs.length * 6) hxg)
           try simp only [Act.put, List.setIfInBounds_toArray, List.set_cons_succ, List.set_cons_zero]
           refine wpAnyH_ready (rs := [9]) (by kernel_rfl) (by simp) ?_
           refine AllReadyH.cons (i := 9) (o := ⟨none, _, _, _, _, _⟩) rfl (fun K hK => ?_) ?_
           ·
            go_simp
            refine hK.out _ _ ?_ (fun hHeld => ?_)
            ·
             exact hHeld.block (Below.heap_setCell _ ⟨w.heap.size + 2, 4, none⟩ _ xb (by show xb ≠ w.heap.size + 2; have := Hxl2.out; omega))
            try simp only [Act.put, List.setIfInBounds_toArray, List.set_cons_succ, List.set_cons_zero]
            refine wpAnyH_done (by kernel_rfl) ?_ _
            have hP9 := HP7.out.pushVal (w' := put6 w8 gb (off + vs.length * 6) (.int .i64 d.sort) (.bool d.on) (.int .i64 d.n) (.string ⟨d.text.toArray⟩) (.slice d.a d.list.length d.c) (.slice d.ka d.keys.length d.kc)) (x := d) HD7.out (Own.put6 d Hown8.out)
             (fun j hj h1 h2 => (put6_other (fun e => h2 (by rw [rowOf_pos (by have := Hown8.out.le; omega), e]; rfl))).trans (Hgf8.out.1 j hj h1)) (put6_below Hgf8.out.2.1 (Nat.zero_le _)) Hgf8.out.2.2
            have hbg : b ≠ gb := by omega
            have hR9 : RdAt ((put6 w8 gb (off + vs.length * 6) (.int .i64 d.sort) (.bool d.on) (.int .i64 d.n) (.string ⟨d.text.toArray⟩) (.slice d.a d.list.length d.c) (.slice d.ka d.keys.length d.kc)).setCell ⟨w.heap.size + 2, 4, none⟩ (.slice (some ⟨gb, off, none⟩) (vs.length + 1) c5)) b r2 ((o : Int) + 1) :=
             Blk.other (p := ⟨w.heap.size + 2, 4, none⟩) ((put6_other hbg).trans ((Hgf8.out.1 b (Blk.lt HR7.out) (HP7.out.own.apart (by omega))).trans HR7.out)) (by show b ≠ w.heap.size + 2; omega) _
            obtain ⟨W9, hW9⟩ : ∃ W9, W9 = (((((((w8.setCell ⟨gb, off + vs.length * 6, none⟩ (.int .i64 d.sort)).setCell ⟨gb, off + vs.length * 6 + 1, none⟩ (.bool d.on)).setCell ⟨gb, off + vs.length * 6 + 2, none⟩ (.int .i64 d.n)).setCell ⟨gb, off + vs.length * 6 + 3, none⟩ (.string ⟨d.text.toArray⟩)).setCell ⟨gb, off + vs.length * 6 + 4, none⟩ (.slice d.a d.list.length d.c)).setCell ⟨gb, off + vs.length * 6 + 5, none⟩ (.slice d.ka d.keys.length d.kc)).setCell ⟨w.heap.size + 1 + 1, 4, none⟩ (.slice (some ⟨gb, off, none⟩) (vs.length + 1) c5)) := ⟨_, rfl⟩
            rw [← hW9]
            have HP9 : Hid (PV w W9 b sort (vs ++ [d]) (some ⟨gb, off, none⟩) c5 kn ka5 kc5) := Lib.hid (by rw [hW9]; exact hP9)
            have HR9 : Hid (RdAt W9 b r2 ((o : Int) + 1)) := Lib.hid (by rw [hW9]; exact hR9)
            clear hP9 hR9 hW9 hbg s0 s1 s2 s3 s4 s5 z0 z1 z2 z3 z4 z5 hgb l4 m4 hgv hxg Hown8 Hg8 Hgf8 HX Hxr Hxl Hxs Hxl2 HP7 HR7 HD7 l4'
            have b0 := HP9.out.box.cell 0
            simp only [List.getElem?_toArray, List.getElem?_cons_zero] at b0
            cases ht : takes [e] r2 with
            | some r3 =>
             have hE : res = .ok (.mk sort false 0 [] ((vs ++ [d]).map VD.v) kn) r3 := by rw [Hg3.out, ht, List.map_append, List.map_singleton, Hdv.out]
             have HE := Lib.hid hE
             have HT := Lib.hid ht
             clear hE ht
             go_wp2_with fail
             refine (takes_yes b r2 [e] r3 _ W9 HR9.out HT.out).mono ?_
             rintro e' W10 ⟨rfl, hk10, hr10⟩
             have hp10 := HP9.out.turn hbl hk10
             have HR10 := Lib.hid hr10
             have HP10 := Lib.hid hp10
             have v0 := hp10.blk.cell 0
             have v1 := hp10.blk.cell 1
             have v2 := hp10.blk.cell 2
             have v3 := hp10.blk.cell 3
             have v4 := hp10.blk.cell 4
             have v5 := hp10.blk.cell 5
             simp only [List.getElem?_toArray, List.getElem?_cons_zero, List.getElem?_cons_succ] at v0 v1 v2 v3 v4 v5
             rw [List.length_append, List.length_singleton] at v4
             clear hk10 hr10 b0 hp10
             have q0 := HP10.out.res.cell 0
             have q1 := HP10.out.res.cell 1
             have q2 := HP10.out.res.cell 2
             have q3 := HP10.out.res.cell 3
             have q4 := HP10.out.res.cell 4
             have q5 := HP10.out.res.cell 5
             have g0 := HP10.out.res.free 0
             have g1 := HP10.out.res.free 1
             have g2 := HP10.out.res.free 2
             have g3 := HP10.out.res.free 3
             have g4 := HP10.out.res.free 4
             have g5 := HP10.out.res.free 5
             unfold zeroV at q0 q1 q2 q3 q4 q5
             simp only [List.getElem?_toArray, List.getElem?_cons_zero, List.getElem?_cons_succ] at q0 q1 q2 q3 q4 q5
             go_wp2
             have hfin := vaE_parts (o := o) HE.out HP10.out hbl HR10.out
             rw [List.length_append, List.length_singleton] at hfin
             exact leaves_dec (n0 := w.heap.size) (g := w.heap.size + 1) (b := b) (s := r3) (o := o) rfl rfl (store6 HP10.out.res) (HP10.out.box.other6 (by omega)) (HR10.out.put6 (by omega) _ _ _ _ _ _) hoj (by omega) (by omega) hfin
            | none =>
             have hg4 : res = match takes [44] r2 with | some r => loopL g (o + 1) sort e r (vs.map VD.v ++ [x]) kn | none => .err 21 := by rw [Hg3.out, ht]
             have Hg4 := Lib.hid hg4
             have HT := Lib.hid ht
             clear hg4 ht
             go_wp2_with fail
             refine (takes_no b r2 [e] _ W9 HR9.out HT.out).mono ?_
             rintro e' W10 ⟨rfl, hk10, hr10⟩
             have HP10 := Lib.hid (HP9.out.turn hbl hk10)
             have HR10 := Lib.hid hr10
             clear hk10 hr10 b0
             have b0 := HP10.out.box.cell 0
             simp only [List.getElem?_toArray, List.getElem?_cons_zero] at b0
             cases ht2 : takes [44] r2 with
             | none =>
              have hE : res = .err 21 := by rw [Hg4.out, ht2]
              have HE := Lib.hid hE
              have HT2 := Lib.hid ht2
              clear hE ht2
              go_wp2_with fail
              refine (takes_no b r2 [44] _ W10 HR10.out HT2.out).mono ?_
              rintro e' W11 ⟨rfl, hk11, hr11⟩
              have HP11 := Lib.hid (HP10.out.turn hbl hk11)
              have HR11 := Lib.hid hr11
              clear hk11 hr11 b0
              have q0 := HP11.out.res.cell 0
              have q1 := HP11.out.res.cell 1
              have q2 := HP11.out.res.cell 2
              have q3 := HP11.out.res.cell 3
              have q4 := HP11.out.res.cell 4
              have q5 := HP11.out.res.cell 5
              have g0 := HP11.out.res.free 0
              have g1 := HP11.out.res.free 1
              have g2 := HP11.out.res.free 2
              have g3 := HP11.out.res.free 3
              have g4 := HP11.out.res.free 4
              have g5 := HP11.out.res.free 5
              unfold zeroV at q0 q1 q2 q3 q4 q5
              simp only [List.getElem?_toArray, List.getElem?_cons_zero, List.getElem?_cons_succ] at q0 q1 q2 q3 q4 q5
              go_wp2
              refine leaves_dec (n0 := w.heap.size) (g := w.heap.size + 1) (b := b) (s := r2) (o := ((o : Int) + 1) - 1) rfl rfl (store6 HP11.out.res) (HP11.out.box.other6 (by omega)) ?_ (by omega) (by omega) (by omega) ?_
              ·
               have := HR11.out.put6 (g := w.heap.size + 1) (by omega) (.int .i64 0) (.bool false) (.int .i64 0) (.string { data := #[] }) (.slice none 0 0) (.slice none 0 0)
               rw [show ((o : Int) + 1) - 1 + 1 = ((o : Int) + 1) by omega]
               exact this
              ·
               exact vaE_err HE.out ((HP11.out.keep.put6 (by omega) _ _ _ _ _ _).open _) ((HR11.out.put6 (by omega) _ _ _ _ _ _).open _) (by omega) (by omega)
             | some r4 =>
              have hE : g ≤ f ∧ res = loopL g (o + 1) sort e r4 ((vs ++ [d]).map VD.v) kn := ⟨by have := Hgf.out; omega, by rw [Hg4.out, ht2, List.map_append, List.map_singleton, Hdv.out]⟩
              have HE := Lib.hid hE
              have hl4 := takes_len ht2
              have HT2 := Lib.hid ht2
              clear hE ht2
              go_wp2_with fail
              refine (takes_yes b r2 [44] r4 _ W10 HR10.out HT2.out).mono ?_
              rintro e' W11 ⟨rfl, hk11, hr11⟩
              have HP11 := Lib.hid (HP10.out.turn hbl hk11)
              have HR11 := Lib.hid hr11
              have Hm : Hid (leftAt W11 b < leftAt wr b) := Lib.hid (by rw [leftAt_of HR11.out, leftAt_of hR.out]; simp only [List.length_singleton] at hl4; omega)
              have hvl' : (vs ++ [d]).length + r4.length ≤ 1048576 := by rw [List.length_append, List.length_singleton]; simp only [List.length_singleton] at hl4; omega
              have hkl' : kn.length + r4.length ≤ 1048576 := by omega
              clear hk11 hr11 b0
              go_wp2
              go_roundw
              case rel => exact ⟨g, r4, vs ++ [d], some ⟨gb, off, none⟩, c5, kn, ka5, kc5, HE, HP11, HR11, hvl', hkl'⟩
              case measure => exact Hm.out
           exact AllReadyH.nil
          refine AllReadyH.cons (i := 9) (o := ⟨none, _, _, _, _, _⟩) rfl (fun K hK => ?_) ?_
          ·
           go_simp
           refine hK.out _ _ ?_ (fun hHeld => ?_)
           ·
            exact hHeld.block (Below.heap_setCell _ ⟨w.heap.size + 2, 4, none⟩ _ xb (by show xb ≠ w.heap.size + 2; have := Hxl2.out; omega))
           try simp only [Act.put, List.setIfInBounds_toArray, List.set_cons_succ, List.set_cons_zero]
           refine wpAnyH_ready (rs := [7]) (by kernel_rfl) (by simp) ?_
           refine AllReadyH.cons (i := 7) (o := ⟨none, _, _, _, _, _⟩) rfl (fun K hK => ?_) ?_
           ·
            go_simp
            refine hK.out _ _ ?_ (fun hHeld => ?_)
            ·
             exact hHeld.block (put6_other (g := gb) (o := off + vs.length * 6) hxg)
            try simp only [Act.put, List.setIfInBounds_toArray, List.set_cons_succ, List.set_cons_zero]
            refine wpAnyH_done (by kernel_rfl) ?_ _
            have hP9 := HP7.out.pushVal (w' := put6 w8 gb (off + vs.length * 6) (.int .i64 d.sort) (.bool d.on) (.int .i64 d.n) (.string ⟨d.text.toArray⟩) (.slice d.a d.list.length d.c) (.slice d.ka d.keys.length d.kc)) (x := d) HD7.out (Own.put6 d Hown8.out)
             (fun j hj h1 h2 => (put6_other (fun e => h2 (by rw [rowOf_pos (by have := Hown8.out.le; omega), e]; rfl))).trans (Hgf8.out.1 j hj h1)) (put6_below Hgf8.out.2.1 (Nat.zero_le _)) Hgf8.out.2.2
            have hbg : b ≠ gb := by omega
            have hR9 : RdAt ((put6 w8 gb (off + vs.length * 6) (.int .i64 d.sort) (.bool d.on) (.int .i64 d.n) (.string ⟨d.text.toArray⟩) (.slice d.a d.list.length d.c) (.slice d.ka d.keys.length d.kc)).setCell ⟨w.heap.size + 2, 4, none⟩ (.slice (some ⟨gb, off, none⟩) (vs.length + 1) c5)) b r2 ((o : Int) + 1) :=
             Blk.other (p := ⟨w.heap.size + 2, 4, none⟩) ((put6_other hbg).trans ((Hgf8.out.1 b (Blk.lt HR7.out) (HP7.out.own.apart (by omega))).trans HR7.out)) (by show b ≠ w.heap.size + 2; omega) _
            rw [← put6_comm (q := ⟨w.heap.size + 2, 4, none⟩) hgv] at hP9 hR9
            obtain ⟨W9, hW9⟩ : ∃ W9, W9 = (((((((w8.setCell ⟨w.heap.size + 1 + 1, 4, none⟩ (.slice (some ⟨gb, off, none⟩) (vs.length + 1) c5)).setCell ⟨gb, off + vs.length * 6, none⟩ (.int .i64 d.sort)).setCell ⟨gb, off + vs.length * 6 + 1, none⟩ (.bool d.on)).setCell ⟨gb, off + vs.length * 6 + 2, none⟩ (.int .i64 d.n)).setCell ⟨gb, off + vs.length * 6 + 3, none⟩ (.string ⟨d.text.toArray⟩)).setCell ⟨gb, off + vs.length * 6 + 4, none⟩ (.slice d.a d.list.length d.c)).setCell ⟨gb, off + vs.length * 6 + 5, none⟩ (.slice d.ka d.keys.length d.kc)) := ⟨_, rfl⟩
            rw [← hW9]
            have HP9 : Hid (PV w W9 b sort (vs ++ [d]) (some ⟨gb, off, none⟩) c5 kn ka5 kc5) := Lib.hid (by rw [hW9]; exact hP9)
            have HR9 : Hid (RdAt W9 b r2 ((o : Int) + 1)) := Lib.hid (by rw [hW9]; exact hR9)
            clear hP9 hR9 hW9 hbg s0 s1 s2 s3 s4 s5 z0 z1 z2 z3 z4 z5 hgb l4 m4 hgv hxg Hown8 Hg8 Hgf8 HX Hxr Hxl Hxs Hxl2 HP7 HR7 HD7 l4'
            have b0 := HP9.out.box.cell 0
            simp only [List.getElem?_toArray, List.getElem?_cons_zero] at b0
            cases ht : takes [e] r2 with
            | some r3 =>
             have hE : res = .ok (.mk sort false 0 [] ((vs ++ [d]).map VD.v) kn) r3 := by rw [Hg3.out, ht, List.map_append, List.map_singleton, Hdv.out]
             have HE := Lib.hid hE
             have HT := Lib.hid ht
             clear hE ht
             go_wp2_with fail
             refine (takes_yes b r2 [e] r3 _ W9 HR9.out HT.out).mono ?_
             rintro e' W10 ⟨rfl, hk10, hr10⟩
             have hp10 := HP9.out.turn hbl hk10
             have HR10 := Lib.hid hr10
             have HP10 := Lib.hid hp10
             have v0 := hp10.blk.cell 0
             have v1 := hp10.blk.cell 1
             have v2 := hp10.blk.cell 2
             have v3 := hp10.blk.cell 3
             have v4 := hp10.blk.cell 4
             have v5 := hp10.blk.cell 5
             simp only [List.getElem?_toArray, List.getElem?_cons_zero, List.getElem?_cons_succ] at v0 v1 v2 v3 v4 v5
             rw [List.length_append, List.length_singleton] at v4
             clear hk10 hr10 b0 hp10
             have q0 := HP10.out.res.cell 0
             have q1 := HP10.out.res.cell 1
             have q2 := HP10.out.res.cell 2
             have q3 := HP10.out.res.cell 3
             have q4 := HP10.out.res.cell 4
             have q5 := HP10.out.res.cell 5
             have g0 := HP10.out.res.free 0
             have g1 := HP10.out.res.free 1
             have g2 := HP10.out.res.free 2
             have g3 := HP10.out.res.free 3
             have g4 := HP10.out.res.free 4
             have g5 := HP10.out.res.free 5
             unfold zeroV at q0 q1 q2 q3 q4 q5
             simp only [List.getElem?_toArray, List.getElem?_cons_zero, List.getElem?_cons_succ] at q0 q1 q2 q3 q4 q5
             go_wp2
             have hfin := vaE_parts (o := o) HE.out HP10.out hbl HR10.out
             rw [List.length_append, List.length_singleton] at hfin
             exact leaves_dec (n0 := w.heap.size) (g := w.heap.size + 1) (b := b) (s := r3) (o := o) rfl rfl (store6 HP10.out.res) (HP10.out.box.other6 (by omega)) (HR10.out.put6 (by omega) _ _ _ _ _ _) hoj (by omega) (by omega) hfin
            | none =>
             have hg4 : res = match takes [44] r2 with | some r => loopL g (o + 1) sort e r (vs.map VD.v ++ [x]) kn | none => .err 21 := by rw [Hg3.out, ht]
             have Hg4 := Lib.hid hg4
             have HT := Lib.hid ht
             clear hg4 ht
             go_wp2_with fail
             refine (takes_no b r2 [e] _ W9 HR9.out HT.out).mono ?_
             rintro e' W10 ⟨rfl, hk10, hr10⟩
             have HP10 := Lib.hid (HP9.out.turn hbl hk10)
             have HR10 := Lib.hid hr10
             clear hk10 hr10 b0
             have b0 := HP10.out.box.cell 0
             simp only [List.getElem?_toArray, List.getElem?_cons_zero] at b0
             cases ht2 : takes [44] r2 with
             | none =>
              have hE : res = .err 21 := by rw [Hg4.out, ht2]
              have HE := Lib.hid hE
              have HT2 := Lib.hid ht2
              clear hE ht2
              go_wp2_with fail
              refine (takes_no b r2 [44] _ W10 HR10.out HT2.out).mono ?_
              rintro e' W11 ⟨rfl, hk11, hr11⟩
              have HP11 := Lib.hid (HP10.out.turn hbl hk11)
              have HR11 := Lib.hid hr11
              clear hk11 hr11 b0
              have q0 := HP11.out.res.cell 0
              have q1 := HP11.out.res.cell 1
              have q2 := HP11.out.res.cell 2
              have q3 := HP11.out.res.cell 3
              have q4 := HP11.out.res.cell 4
              have q5 := HP11.out.res.cell 5
              have g0 := HP11.out.res.free 0
              have g1 := HP11.out.res.free 1
              have g2 := HP11.out.res.free 2
              have g3 := HP11.out.res.free 3
              have g4 := HP11.out.res.free 4
              have g5 := HP11.out.res.free 5
              unfold zeroV at q0 q1 q2 q3 q4 q5
              simp only [List.getElem?_toArray, List.getElem?_cons_zero, List.getElem?_cons_succ] at q0 q1 q2 q3 q4 q5
              go_wp2
              refine leaves_dec (n0 := w.heap.size) (g := w.heap.size + 1) (b := b) (s := r2) (o := ((o : Int) + 1) - 1) rfl rfl (store6 HP11.out.res) (HP11.out.box.other6 (by omega)) ?_ (by omega) (by omega) (by omega) ?_
              ·
               have := HR11.out.put6 (g := w.heap.size + 1) (by omega) (.int .i64 0) (.bool false) (.int .i64 0) (.string { data := #[] }) (.slice none 0 0) (.slice none 0 0)
               rw [show ((o : Int) + 1) - 1 + 1 = ((o : Int) + 1) by omega]
               exact this
              ·
               exact vaE_err HE.out ((HP11.out.keep.put6 (by omega) _ _ _ _ _ _).open _) ((HR11.out.put6 (by omega) _ _ _ _ _ _).open _) (by omega) (by omega)
             | some r4 =>
              have hE : g ≤ f ∧ res = loopL g (o + 1) sort e r4 ((vs ++ [d]).map VD.v) kn := ⟨by have := Hgf.out; omega, by rw [Hg4.out, ht2, List.map_append, List.map_singleton, Hdv.out]⟩
              have HE := Lib.hid hE
              have hl4 := takes_len ht2
              have HT2 := Lib.hid ht2
              clear hE ht2
              go_wp2_with fail
              refine (takes_yes b r2 [44] r4 _ W10 HR10.out HT2.out).mono ?_
              rintro e' W11 ⟨rfl, hk11, hr11⟩
              have HP11 := Lib.hid (HP10.out.turn hbl hk11)
              have HR11 := Lib.hid hr11
              have Hm : Hid (leftAt W11 b < leftAt wr b) := Lib.hid (by rw [leftAt_of HR11.out, leftAt_of hR.out]; simp only [List.length_singleton] at hl4; omega)
              have hvl' : (vs ++ [d]).length + r4.length ≤ 1048576 := by rw [List.length_append, List.length_singleton]; simp only [List.length_singleton] at hl4; omega
              have hkl' : kn.length + r4.length ≤ 1048576 := by omega
              clear hk11 hr11 b0
              go_wp2
              go_roundw
              case rel => exact ⟨g, r4, vs ++ [d], some ⟨gb, off, none⟩, c5, kn, ka5, kc5, HE, HP11, HR11, hvl', hkl'⟩
              case measure => exact Hm.out
           exact AllReadyH.nil
          exact AllReadyH.nil
         exact AllReadyH.nil
        exact AllReadyH.nil
       exact AllReadyH.nil
   ·
    have h5b : (sort == 5) = false := by simpa using hs5
    rw [if_neg hs5] at hq0
    clear hs5
    have hq2 : g ≤ f ∧ res = elemL g (o + 1) sort e t (vs.map VD.v) ks := ⟨by have := hq1.1; omega, hq0⟩
    have hts : t.length ≤ 1048576 := by omega
    clear hq0 hq1
    cases g with
    | zero => exact absurd (by rw [hq2.2]; simp [elemL]) Hne.out
    | succ g =>
     have hg2 := hq2.2
     rw [elemL_step] at hg2
     have hnv : valL g (o + 1) t ≠ .out := fun hv => Hne.out (by rw [hg2, hv])
     have hcall := HV.out g (by have := hq2.1; omega) b t (o + 1) wr (hP.out.keep.glob HG.out hb8) hb8 (by have := hR.out; simpa using this) (by omega) (by omega) hnv
     have Hcall := Lib.hid hcall
     have Hg2 := Lib.hid hg2
     have Hgf : Hid (g + 1 ≤ f) := Lib.hid (by have := hq2.1; omega)
     clear hq2 hg2 hcall hnv
     go_wp2_with fail
     refine Hcall.out.mono ?_
     clear Hcall
     cases hv : valL g (o + 1) t with
     | out => exact absurd (by rw [Hg2.out, hv]) Hne.out
     | err k =>
      rintro e' w6 ⟨d, t6, o6, rfl, hk6, hr6, ho6, ho7⟩
      have HP6 := Lib.hid (hP.out.turn hbl hk6)
      have HR6 := Lib.hid hr6
      have hE : res = .err k := by rw [Hg2.out, hv]
      have HE := Lib.hid hE
      have hk12 := (read_err g).1 _ _ _ hv
      have hkn : (k != 0) = true := by rcases hk12 with rfl | rfl <;> rfl
      have ho8 : (o : Int) + 1 ≤ o6 := by push_cast at ho6; omega
      have ho9 : o6 ≤ (o : Int) + 2 := by push_cast at ho7; omega
      rw [VD.val_eq']
      obtain ⟨w7, hw7⟩ : ∃ w7, w7 = w6.alloc (.cells #[.int .i64 d.sort, .bool d.on, .int .i64 d.n, .string ⟨d.text.toArray⟩, .slice d.a d.list.length d.c, .slice d.ka d.keys.length d.kc] 36) := ⟨_, rfl⟩
      have hb7 : Below w6.heap.size w6 w7 := by rw [hw7]; exact below_a1 _ _
      have HP7 := Lib.hid (HP6.out.ext hbl hb7)
      have HR7 := Lib.hid (HR6.out.ext hb7)
      have Hw7 := Lib.hid hw7
      clear hk6 hr6 hE hv ho6 ho7 hk12 hb7 hw7
      go_upto_region 14 with (fail)
      rw [← Hw7.out]
      clear Hw7
      have q0 := HP7.out.res.cell 0
      have q1 := HP7.out.res.cell 1
      have q2 := HP7.out.res.cell 2
      have q3 := HP7.out.res.cell 3
      have q4 := HP7.out.res.cell 4
      have q5 := HP7.out.res.cell 5
      have g0 := HP7.out.res.free 0
      have g1 := HP7.out.res.free 1
      have g2 := HP7.out.res.free 2
      have g3 := HP7.out.res.free 3
      have g4 := HP7.out.res.free 4
      have g5 := HP7.out.res.free 5
      unfold zeroV at q0 q1 q2 q3 q4 q5
      simp only [List.getElem?_toArray, List.getElem?_cons_zero, List.getElem?_cons_succ] at q0 q1 q2 q3 q4 q5
      go_wp2
      refine leaves_dec (n0 := w.heap.size) (g := w.heap.size + 1) (b := b) (s := t6) (o := o6 - 1) rfl rfl (store6 HP7.out.res) (HP7.out.box.other6 (by omega)) ?_ (by omega) (by omega) (by omega) ?_
      ·
       have := HR7.out.put6 (g := w.heap.size + 1) (by omega) (.int .i64 0) (.bool false) (.int .i64 0) (.string { data := #[] }) (.slice none 0 0) (.slice none 0 0)
       rw [show o6 - 1 + 1 = o6 by omega]
       exact this
      ·
       exact vaE_err HE.out ((HP7.out.keep.put6 (by omega) _ _ _ _ _ _).open _) ((HR7.out.put6 (by omega) _ _ _ _ _ _).open _) (by omega) (by omega)
     | ok x r2 =>
      rintro e' w6 ⟨d, rfl, hdv, hda, hk6, hr6⟩
      rw [VD.val_eq']
      have hp6 := hP.out.turn hbl hk6
      have hg3 : res = (match takes [e] r2 with | some r => .ok (.mk sort false 0 [] (vs.map VD.v ++ [x]) ks) r | none => match takes [44] r2 with | some r => loopL g (o + 1) sort e r (vs.map VD.v ++ [x]) ks | none => .err 21) := by first | (rw [Hg2.out, hv]; done) | (rw [Hg2.out, hv]; rfl)
      have hlen6 := (read_len g).1 _ _ _ _ hv
      have hr6' : RdAt w6 b r2 ((o : Int) + 1) := by simpa using hr6
      have hfr : ∀ k, wr.heap.size ≤ k → w.heap.size + 3 ≤ k ∧ rowOf la lc ≠ some k ∧ rowOf ka kc ≠ some k := fun k hk => ⟨by have := hP.out.blk.lt; omega, fun e => own_new hP.out.own hk e.symm, fun e => own_new hP.out.kown hk e.symm⟩
      have hda2 := hda.mono (q := fun k => w.heap.size + 3 ≤ k ∧ rowOf la lc ≠ some k ∧ rowOf ka kc ≠ some k) fun k hk _ => hfr k hk
      have Hdv := Lib.hid hdv
      have Hg3 := Lib.hid hg3
      have hls6 := hp6.blk.lt
      obtain ⟨w7, hw7⟩ : ∃ w7, w7 = w6.alloc (.cells #[.int .i64 d.sort, .bool d.on, .int .i64 d.n, .string ⟨d.text.toArray⟩, .slice d.a d.list.length d.c, .slice d.ka d.keys.length d.kc] 36) := ⟨_, rfl⟩
      have hb7 : Below w6.heap.size w6 w7 := by rw [hw7]; exact below_a1 _ _
      have hs7 : w7.heap.size = w6.heap.size + 1 := by rw [hw7]; simp
      obtain ⟨xb, hxb⟩ : ∃ xb, xb = w6.heap.size := ⟨_, rfl⟩
      have hx7 : Six w7 xb d := by
       have hbx : Blk w7 w6.heap.size #[.int .i64 d.sort, .bool d.on, .int .i64 d.n, .string ⟨d.text.toArray⟩, .slice d.a d.list.length d.c, .slice d.ka d.keys.length d.kc] 36 := by rw [hw7]; exact Blk.new rfl
       rw [hxb]
       exact ⟨hbx.cell 0, hbx.cell 1, hbx.cell 2, hbx.cell 3, hbx.cell 4, hbx.cell 5⟩
      have HX := Lib.hid hx7
      have HP7 := Lib.hid (hp6.ext hbl hb7)
      have HR7 := Lib.hid (hr6'.ext hb7)
      have HD7 := Lib.hid (hda2.ext hb7)
      have Hxr : Hid (some xb ≠ rowOf la lc) := Lib.hid (by rw [hxb]; exact own_new hp6.own (Nat.le_refl _))
      have Hxl : Hid (xb < w7.heap.size) := Lib.hid (by omega)
      have Hxs : Hid (xb < w7.heap.size) := Lib.hid (by omega)
      have Hxl2 : Hid (w.heap.size + 2 < xb) := Lib.hid (by omega)
      have hcap := hp6.own.le
      have hw73 : w.heap.size + 3 ≤ w7.heap.size := by omega
      have hvl : vs.length + r2.length ≤ 1048576 := by omega
      have hkl : ks.length + r2.length ≤ 1048576 := by omega
      have l4' := HP7.out.blk.cell 4
      simp only [List.getElem?_toArray, List.getElem?_cons_zero, List.getElem?_cons_succ] at l4'
      have Hw7 := Lib.hid hw7
      have Hxb := Lib.hid hxb
      clear hk6 hr6 hr6' hp6 hg3 hdv hda hda2 hv hfr hb7 hs7 hx7 hls6 hw7 hxb
      go_upto_region 16 with (fail)
      rw [← Hw7.out, ← Hxb.out]
      clear Hw7 Hxb
      refine wp_region_held_drew (S := fun w' => Six w' xb d) (by kernel_rfl) ?_ (fun hHeld => ?_)
      ·
       exact HX.out
      refine wpAnyH_take (i := 0) (oi := ⟨some 55, _, _, _, _, _⟩) (v := ?_) rfl (by kernel_rfl) (by kernel_rfl) (by kernel_rfl) (fun _ _ _ h => h) (Or.inl ⟨by rfl, ?_⟩) (by assumption) ?_; rotate_left; focus (intro w hSw; (try dsimp only at hSw); first | (go_simp; done) | (go_simp; with_reducible rfl))
      try simp only [Act.put, List.setIfInBounds_toArray, List.set_cons_succ, List.set_cons_zero]
      refine wpAnyH_take (i := 2) (oi := ⟨some 57, _, _, _, _, _⟩) (v := ?_) rfl (by kernel_rfl) (by kernel_rfl) (by kernel_rfl) (fun _ _ _ h => h) (Or.inl ⟨by rfl, ?_⟩) (by assumption) ?_; rotate_left; focus (intro w hSw; (try dsimp only at hSw); (obtain ⟨y0, y1, y2, y3, y4, y5⟩ := hSw; first | (go_simp; done) | (go_simp; with_reducible rfl)))
      try simp only [Act.put, List.setIfInBounds_toArray, List.set_cons_succ, List.set_cons_zero]
      refine wpAnyH_ready (rs := [1, 4]) (by kernel_rfl) (by simp) ?_
      refine AllReadyH.cons (i := 1) (o := ⟨some 56, _, _, _, _, _⟩) rfl (fun K hK => ?_) ?_
      ·
       go_simp
       refine hK.out _ _ ?_ (fun hHeld => ?_)
       ·
        exact hHeld
       try simp only [Act.put, List.setIfInBounds_toArray, List.set_cons_succ, List.set_cons_zero]
       refine wpAnyH_take (i := 3) (oi := ⟨some 58, _, _, _, _, _⟩) (v := ?_) rfl (by kernel_rfl) (by kernel_rfl) (by kernel_rfl) (fun _ _ _ h => h) (Or.inl ⟨by rfl, ?_⟩) (by assumption) ?_; rotate_left; focus (intro w hSw; (try dsimp only at hSw); first | (go_simp; done) | (go_simp; with_reducible rfl))
       try simp only [Act.put, List.setIfInBounds_toArray, List.set_cons_succ, List.set_cons_zero]
       refine wpAnyH_ready (rs := [4]) (by kernel_rfl) (by simp) ?_
       refine AllReadyH.cons (i := 4) (o := ⟨some 59, _, _, _, _, _⟩) rfl (fun K hK => ?_) ?_
       ·
        go_simp
        refine hK.out _ _ ?_ (fun hHeld => ?_)
        ·
         exact hHeld.ext (below_a1 _ _)
        try simp only [Act.put, List.setIfInBounds_toArray, List.set_cons_succ, List.set_cons_zero]
        refine wpAnyH_ready (rs := [5]) (by kernel_rfl) (by simp) ?_
        refine AllReadyH.cons (i := 5) (o := ⟨some 60, _, _, _, _, _⟩) rfl (fun K hK => ?_) ?_
        ·
         refine step_append_Own rfl (.tmp 56) (.tmp 59) 34 rfl (w.heap.size + 3) 36 _ 6 88 Tryz.underlying34 Tryz.infoVal rfl (by decide) la vs.length lc _ (by simp [go_sem]) (by exact HP7.out.own.alloc _) _ 1 1 [.int .i64 0, .bool false, .int .i64 0, .string { data := #[] }, .slice none 0 0, .slice none 0 0] (by simp [go_sem]; rfl) (by exact Row.new1 (by simp) rfl rfl) (by intro u hu; simp at hu; rcases hu with rfl | rfl | rfl | rfl | rfl | rfl <;> rfl) (by unfold maxLen; omega) (by omega) (by simp; omega) ?_
         intro a5 c5 w8 hown8 hg8 hbk8
         obtain ⟨gb, off, rfl⟩ := hown8.addr (by have := hown8.le; omega)
         obtain ⟨⟨s0, s1, s2, s3, s4, s5⟩, ⟨z0, z1, z2, z3, z4, z5⟩, hgb⟩ := hown8.slots6
         have hv8 : Blk w8 (w.heap.size + 2) #[.int .i64 sort, .bool false, .int .i64 0, .string { data := #[] }, .slice la vs.length lc, .slice ka ks.length kc] 36 := by
          first
           | exact Blk.grown (Blk.drew (Blk.alloc HP7.out.blk _)) hg8 (HP7.out.own.apart (by omega))
           | exact Blk.grown (Blk.alloc HP7.out.blk _) hg8 (HP7.out.own.apart (by omega))
           | exact Blk.grown (Blk.alloc (Blk.drew HP7.out.blk) _) hg8 (HP7.out.own.apart (by omega))
         have l4 := hv8.cell 4
         have m4 := hv8.free 4
         simp only [List.getElem?_toArray, List.getElem?_cons_zero, List.getElem?_cons_succ] at l4
         have hgv : gb ≠ w.heap.size + 2 := by omega
         have hxg : xb ≠ gb := by
          intro he
          have hr8 : rowOf (some ⟨gb, off, none⟩) c5 = some gb := by first | (rw [rowOf_pos (by have := hown8.le; omega)]; done) | (rw [rowOf_pos (by have := hown8.le; omega)]; rfl)
          rcases hbk8 with h | h
          ·
           exact Hxr.out (by rw [← h, hr8, he])
          ·
           rw [hr8] at h; injection h with h; have := Hxs.out; simp at h; omega
         have hgf := grown_from (w7 := w7) (by first | exact below_a1 w7 _ | exact (below_a1 w7 _).drew | exact (Below.refl _ w7).drew.alloc (Nat.le_refl _) _) hg8 hbk8
         have Hown8 := Lib.hid hown8
         have Hg8 := Lib.hid hg8
         have Hgf8 := Lib.hid hgf
         clear hown8 hg8 hbk8 hv8 hgf
         refine hK.out _ _ ?_ (fun hHeld => ?_)
         ·
          exact (hHeld).block (Hg8.out.block xb (by have := Hxl.out; simp; omega) Hxr.out)
         try simp only [Act.put, List.setIfInBounds_toArray, List.set_cons_succ, List.set_cons_zero]
         refine wpAnyH_take (i := 6) (oi := ⟨some 61, _, _, _, _, _⟩) (v := ?_) rfl (by kernel_rfl) (by kernel_rfl) (by kernel_rfl) (fun _ _ _ h => h) (Or.inl ⟨by rfl, ?_⟩) (by assumption) ?_; rotate_left; focus (intro w hSw; (try dsimp only at hSw); (have hlt1 : ((vs.length : Int) < (vs.length : Int) + 1) = True := eq_true (by omega); first | (go_simp; done) | (go_simp; with_reducible rfl)))
         try simp only [Act.put, List.setIfInBounds_toArray, List.set_cons_succ, List.set_cons_zero]
         refine wpAnyH_take (i := 8) (oi := ⟨some 62, _, _, _, _, _⟩) (v := ?_) rfl (by kernel_rfl) (by kernel_rfl) (by kernel_rfl) (fun _ _ _ h => h) (Or.inl ⟨by rfl, ?_⟩) (by assumption) ?_; rotate_left; focus (intro w hSw; (try dsimp only at hSw); first | (go_simp; done) | (go_simp; with_reducible rfl))
         try simp only [Act.put, List.setIfInBounds_toArray, List.set_cons_succ, List.set_cons_zero]
         refine wpAnyH_ready (rs := [7, 9]) (by kernel_rfl) (by simp) ?_
         refine AllReadyH.cons (i := 7) (o := ⟨none, _, _, _, _, _⟩) rfl (fun K hK => ?_) ?_
         ·
          go_simp
          refine hK.out _ _ ?_ (fun hHeld => ?_)
          ·
           exact hHeld.block (put6_other (g := gb) (o := off + vs.length * 6) hxg)
          try simp only [Act.put, List.setIfInBounds_toArray, List.set_cons_succ, List.set_cons_zero]
          refine wpAnyH_ready (rs := [9]) (by kernel_rfl) (by simp) ?_
          refine AllReadyH.cons (i := 9) (o := ⟨none, _, _, _, _, _⟩) rfl (fun K hK => ?_) ?_
          ·
           go_simp
           refine hK.out _ _ ?_ (fun hHeld => ?_)
           ·
            exact hHeld.block (Below.heap_setCell _ ⟨w.heap.size + 2, 4, none⟩ _ xb (by show xb ≠ w.heap.size + 2; have := Hxl2.out; omega))
           try simp only [Act.put, List.setIfInBounds_toArray, List.set_cons_succ, List.set_cons_zero]
           refine wpAnyH_done (by kernel_rfl) ?_ _
           have hP9 := HP7.out.pushVal (w' := put6 w8 gb (off + vs.length * 6) (.int .i64 d.sort) (.bool d.on) (.int .i64 d.n) (.string ⟨d.text.toArray⟩) (.slice d.a d.list.length d.c) (.slice d.ka d.keys.length d.kc)) (x := d) HD7.out (Own.put6 d Hown8.out)
            (fun j hj h1 h2 => (put6_other (fun e => h2 (by rw [rowOf_pos (by have := Hown8.out.le; omega), e]; rfl))).trans (Hgf8.out.1 j hj h1)) (put6_below Hgf8.out.2.1 (Nat.zero_le _)) Hgf8.out.2.2
           have hbg : b ≠ gb := by omega
           have hR9 : RdAt ((put6 w8 gb (off + vs.length * 6) (.int .i64 d.sort) (.bool d.on) (.int .i64 d.n) (.string ⟨d.text.toArray⟩) (.slice d.a d.list.length d.c) (.slice d.ka d.keys.length d.kc)).setCell ⟨w.heap.size + 2, 4, none⟩ (.slice (some ⟨gb, off, none⟩) (vs.length + 1) c5)) b r2 ((o : Int) + 1) :=
            Blk.other (p := ⟨w.heap.size + 2, 4, none⟩) ((put6_other hbg).trans ((Hgf8.out.1 b (Blk.lt HR7.out) (HP7.out.own.apart (by omega))).trans HR7.out)) (by show b ≠ w.heap.size + 2; omega) _
           obtain ⟨W9, hW9⟩ : ∃ W9, W9 = (((((((w8.setCell ⟨gb, off + vs.length * 6, none⟩ (.int .i64 d.sort)).setCell ⟨gb, off + vs.length * 6 + 1, none⟩ (.bool d.on)).setCell ⟨gb, off + vs.length * 6 + 2, none⟩ (.int .i64 d.n)).setCell ⟨gb, off + vs.length * 6 + 3, none⟩ (.string ⟨d.text.toArray⟩)).setCell ⟨gb, off + vs.length * 6 + 4, none⟩ (.slice d.a d.list.length d.c)).setCell ⟨gb, off + vs.length * 6 + 5, none⟩ (.slice d.ka d.keys.length d.kc)).setCell ⟨w.heap.size + 1 + 1, 4, none⟩ (.slice (some ⟨gb, off, none⟩) (vs.length + 1) c5)) := ⟨_, rfl⟩
           rw [← hW9]
           have HP9 : Hid (PV w W9 b sort (vs ++ [d]) (some ⟨gb, off, none⟩) c5 ks ka kc) := Lib.hid (by rw [hW9]; exact hP9)
           have HR9 : Hid (RdAt W9 b r2 ((o : Int) + 1)) := Lib.hid (by rw [hW9]; exact hR9)
           clear hP9 hR9 hW9 hbg s0 s1 s2 s3 s4 s5 z0 z1 z2 z3 z4 z5 hgb l4 m4 hgv hxg Hown8 Hg8 Hgf8 HX Hxr Hxl Hxs Hxl2 HP7 HR7 HD7 l4'
           have b0 := HP9.out.box.cell 0
           simp only [List.getElem?_toArray, List.getElem?_cons_zero] at b0
           cases ht : takes [e] r2 with
           | some r3 =>
            have hE : res = .ok (.mk sort false 0 [] ((vs ++ [d]).map VD.v) ks) r3 := by rw [Hg3.out, ht, List.map_append, List.map_singleton, Hdv.out]
            have HE := Lib.hid hE
            have HT := Lib.hid ht
            clear hE ht
            go_wp2_with fail
            refine (takes_yes b r2 [e] r3 _ W9 HR9.out HT.out).mono ?_
            rintro e' W10 ⟨rfl, hk10, hr10⟩
            have hp10 := HP9.out.turn hbl hk10
            have HR10 := Lib.hid hr10
            have HP10 := Lib.hid hp10
            have v0 := hp10.blk.cell 0
            have v1 := hp10.blk.cell 1
            have v2 := hp10.blk.cell 2
            have v3 := hp10.blk.cell 3
            have v4 := hp10.blk.cell 4
            have v5 := hp10.blk.cell 5
            simp only [List.getElem?_toArray, List.getElem?_cons_zero, List.getElem?_cons_succ] at v0 v1 v2 v3 v4 v5
            rw [List.length_append, List.length_singleton] at v4
            clear hk10 hr10 b0 hp10
            have q0 := HP10.out.res.cell 0
            have q1 := HP10.out.res.cell 1
            have q2 := HP10.out.res.cell 2
            have q3 := HP10.out.res.cell 3
            have q4 := HP10.out.res.cell 4
            have q5 := HP10.out.res.cell 5
            have g0 := HP10.out.res.free 0
            have g1 := HP10.out.res.free 1
            have g2 := HP10.out.res.free 2
            have g3 := HP10.out.res.free 3
            have g4 := HP10.out.res.free 4
            have g5 := HP10.out.res.free 5
            unfold zeroV at q0 q1 q2 q3 q4 q5
            simp only [List.getElem?_toArray, List.getElem?_cons_zero, List.getElem?_cons_succ] at q0 q1 q2 q3 q4 q5
            go_wp2
            have hfin := vaE_parts (o := o) HE.out HP10.out hbl HR10.out
            rw [List.length_append, List.length_singleton] at hfin
            exact leaves_dec (n0 := w.heap.size) (g := w.heap.size + 1) (b := b) (s := r3) (o := o) rfl rfl (store6 HP10.out.res) (HP10.out.box.other6 (by omega)) (HR10.out.put6 (by omega) _ _ _ _ _ _) hoj (by omega) (by omega) hfin
           | none =>
            have hg4 : res = match takes [44] r2 with | some r => loopL g (o + 1) sort e r (vs.map VD.v ++ [x]) ks | none => .err 21 := by rw [Hg3.out, ht]
            have Hg4 := Lib.hid hg4
            have HT := Lib.hid ht
            clear hg4 ht
            go_wp2_with fail
            refine (takes_no b r2 [e] _ W9 HR9.out HT.out).mono ?_
            rintro e' W10 ⟨rfl, hk10, hr10⟩
            have HP10 := Lib.hid (HP9.out.turn hbl hk10)
            have HR10 := Lib.hid hr10
            clear hk10 hr10 b0
            have b0 := HP10.out.box.cell 0
            simp only [List.getElem?_toArray, List.getElem?_cons_zero] at b0
            cases ht2 : takes [44] r2 with
            | none =>
             have hE : res = .err 21 := by rw [Hg4.out, ht2]
             have HE := Lib.hid hE
             have HT2 := Lib.hid ht2
             clear hE ht2
             go_wp2_with fail
             refine (takes_no b r2 [44] _ W10 HR10.out HT2.out).mono ?_
             rintro e' W11 ⟨rfl, hk11, hr11⟩
             have HP11 := Lib.hid (HP10.out.turn hbl hk11)
             have HR11 := Lib.hid hr11
             clear hk11 hr11 b0
             have q0 := HP11.out.res.cell 0
             have q1 := HP11.out.res.cell 1
             have q2 := HP11.out.res.cell 2
             have q3 := HP11.out.res.cell 3
             have q4 := HP11.out.res.cell 4
             have q5 := HP11.out.res.cell 5
             have g0 := HP11.out.res.free 0
             have g1 := HP11.out.res.free 1
             have g2 := HP11.out.res.free 2
             have g3 := HP11.out.res.free 3
             have g4 := HP11.out.res.free 4
             have g5 := HP11.out.res.free 5
             unfold zeroV at q0 q1 q2 q3 q4 q5
             simp only [List.getElem?_toArray, List.getElem?_cons_zero, List.getElem?_cons_succ] at q0 q1 q2 q3 q4 q5
             go_wp2
             refine leaves_dec (n0 := w.heap.size) (g := w.heap.size + 1) (b := b) (s := r2) (o := ((o : Int) + 1) - 1) rfl rfl (store6 HP11.out.res) (HP11.out.box.other6 (by omega)) ?_ (by omega) (by omega) (by omega) ?_
             ·
              have := HR11.out.put6 (g := w.heap.size + 1) (by omega) (.int .i64 0) (.bool false) (.int .i64 0) (.string { data := #[] }) (.slice none 0 0) (.slice none 0 0)
              rw [show ((o : Int) + 1) - 1 + 1 = ((o : Int) + 1) by omega]
              exact this
             ·
              exact vaE_err HE.out ((HP11.out.keep.put6 (by omega) _ _ _ _ _ _).open _) ((HR11.out.put6 (by omega) _ _ _ _ _ _).open _) (by omega) (by omega)
            | some r4 =>
             have hE : g ≤ f ∧ res = loopL g (o + 1) sort e r4 ((vs ++ [d]).map VD.v) ks := ⟨by have := Hgf.out; omega, by rw [Hg4.out, ht2, List.map_append, List.map_singleton, Hdv.out]⟩
             have HE := Lib.hid hE
             have hl4 := takes_len ht2
             have HT2 := Lib.hid ht2
             clear hE ht2
             go_wp2_with fail
             refine (takes_yes b r2 [44] r4 _ W10 HR10.out HT2.out).mono ?_
             rintro e' W11 ⟨rfl, hk11, hr11⟩
             have HP11 := Lib.hid (HP10.out.turn hbl hk11)
             have HR11 := Lib.hid hr11
             have Hm : Hid (leftAt W11 b < leftAt wr b) := Lib.hid (by rw [leftAt_of HR11.out, leftAt_of hR.out]; simp only [List.length_singleton] at hl4; omega)
             have hvl' : (vs ++ [d]).length + r4.length ≤ 1048576 := by rw [List.length_append, List.length_singleton]; simp only [List.length_singleton] at hl4; omega
             have hkl' : ks.length + r4.length ≤ 1048576 := by omega
             clear hk11 hr11 b0
             go_wp2
             go_roundw
             case rel => exact ⟨g, r4, vs ++ [d], some ⟨gb, off, none⟩, c5, ks, ka, kc, HE, HP11, HR11, hvl', hkl'⟩
             case measure => exact Hm.out
          exact AllReadyH.nil
         refine AllReadyH.cons (i := 9) (o := ⟨none, _, _, _, _, _⟩) rfl (fun K hK => ?_) ?_
         ·
          go_simp
          refine hK.out _ _ ?_ (fun hHeld => ?_)
          ·
           exact hHeld.block (Below.heap_setCell _ ⟨w.heap.size + 2, 4, none⟩ _ xb (by show xb ≠ w.heap.size + 2; have := Hxl2.out; omega))
          try simp only [Act.put, List.setIfInBounds_toArray, List.set_cons_succ, List.set_cons_zero]
          refine wpAnyH_ready (rs := [7]) (by kernel_rfl) (by simp) ?_
          refine AllReadyH.cons (i := 7) (o := ⟨none, _, _, _, _, _⟩) rfl (fun K hK => ?_) ?_
          ·
           go_simp
           refine hK.out _ _ ?_ (fun hHeld => ?_)
           ·
            exact hHeld.block (put6_other (g := gb) (o := off + vs.length * 6) hxg)
           try simp only [Act.put, List.setIfInBounds_toArray, List.set_cons_succ, List.set_cons_zero]
           refine wpAnyH_done (by kernel_rfl) ?_ _
           have hP9 := HP7.out.pushVal (w' := put6 w8 gb (off + vs.length * 6) (.int .i64 d.sort) (.bool d.on) (.int .i64 d.n) (.string ⟨d.text.toArray⟩) (.slice d.a d.list.length d.c) (.slice d.ka d.keys.length d.kc)) (x := d) HD7.out (Own.put6 d Hown8.out)
            (fun j hj h1 h2 => (put6_other (fun e => h2 (by rw [rowOf_pos (by have := Hown8.out.le; omega), e]; rfl))).trans (Hgf8.out.1 j hj h1)) (put6_below Hgf8.out.2.1 (Nat.zero_le _)) Hgf8.out.2.2
           have hbg : b ≠ gb := by omega
           have hR9 : RdAt ((put6 w8 gb (off + vs.length * 6) (.int .i64 d.sort) (.bool d.on) (.int .i64 d.n) (.string ⟨d.text.toArray⟩) (.slice d.a d.list.length d.c) (.slice d.ka d.keys.length d.kc)).setCell ⟨w.heap.size + 2, 4, none⟩ (.slice (some ⟨gb, off, none⟩) (vs.length + 1) c5)) b r2 ((o : Int) + 1) :=
            Blk.other (p := ⟨w.heap.size + 2, 4, none⟩) ((put6_other hbg).trans ((Hgf8.out.1 b (Blk.lt HR7.out) (HP7.out.own.apart (by omega))).trans HR7.out)) (by show b ≠ w.heap.size + 2; omega) _
           rw [← put6_comm (q := ⟨w.heap.size + 2, 4, none⟩) hgv] at hP9 hR9
           obtain ⟨W9, hW9⟩ : ∃ W9, W9 = (((((((w8.setCell ⟨w.heap.size + 1 + 1, 4, none⟩ (.slice (some ⟨gb, off, none⟩) (vs.length + 1) c5)).setCell ⟨gb, off + vs.length * 6, none⟩ (.int .i64 d.sort)).setCell ⟨gb, off + vs.length * 6 + 1, none⟩ (.bool d.on)).setCell ⟨gb, off + vs.length * 6 + 2, none⟩ (.int .i64 d.n)).setCell ⟨gb, off + vs.length * 6 + 3, none⟩ (.string ⟨d.text.toArray⟩)).setCell ⟨gb, off + vs.length * 6 + 4, none⟩ (.slice d.a d.list.length d.c)).setCell ⟨gb, off + vs.length * 6 + 5, none⟩ (.slice d.ka d.keys.length d.kc)) := ⟨_, rfl⟩
           rw [← hW9]
           have HP9 : Hid (PV w W9 b sort (vs ++ [d]) (some ⟨gb, off, none⟩) c5 ks ka kc) := Lib.hid (by rw [hW9]; exact hP9)
           have HR9 : Hid (RdAt W9 b r2 ((o : Int) + 1)) := Lib.hid (by rw [hW9]; exact hR9)
           clear hP9 hR9 hW9 hbg s0 s1 s2 s3 s4 s5 z0 z1 z2 z3 z4 z5 hgb l4 m4 hgv hxg Hown8 Hg8 Hgf8 HX Hxr Hxl Hxs Hxl2 HP7 HR7 HD7 l4'
           have b0 := HP9.out.box.cell 0
           simp only [List.getElem?_toArray, List.getElem?_cons_zero] at b0
           cases ht : takes [e] r2 with
           | some r3 =>
            have hE : res = .ok (.mk sort false 0 [] ((vs ++ [d]).map VD.v) ks) r3 := by rw [Hg3.out, ht, List.map_append, List.map_singleton, Hdv.out]
            have HE := Lib.hid hE
            have HT := Lib.hid ht
            clear hE ht
            go_wp2_with fail
            refine (takes_yes b r2 [e] r3 _ W9 HR9.out HT.out).mono ?_
            rintro e' W10 ⟨rfl, hk10, hr10⟩
            have hp10 := HP9.out.turn hbl hk10
            have HR10 := Lib.hid hr10
            have HP10 := Lib.hid hp10
            have v0 := hp10.blk.cell 0
            have v1 := hp10.blk.cell 1
            have v2 := hp10.blk.cell 2
            have v3 := hp10.blk.cell 3
            have v4 := hp10.blk.cell 4
            have v5 := hp10.blk.cell 5
            simp only [List.getElem?_toArray, List.getElem?_cons_zero, List.getElem?_cons_succ] at v0 v1 v2 v3 v4 v5
            rw [List.length_append, List.length_singleton] at v4
            clear hk10 hr10 b0 hp10
            have q0 := HP10.out.res.cell 0
            have q1 := HP10.out.res.cell 1
            have q2 := HP10.out.res.cell 2
            have q3 := HP10.out.res.cell 3
            have q4 := HP10.out.res.cell 4
            have q5 := HP10.out.res.cell 5
            have g0 := HP10.out.res.free 0
            have g1 := HP10.out.res.free 1
            have g2 := HP10.out.res.free 2
            have g3 := HP10.out.res.free 3
            have g4 := HP10.out.res.free 4
            have g5 := HP10.out.res.free 5
            unfold zeroV at q0 q1 q2 q3 q4 q5
            simp only [List.getElem?_toArray, List.getElem?_cons_zero, List.getElem?_cons_succ] at q0 q1 q2 q3 q4 q5
            go_wp2
            have hfin := vaE_parts (o := o) HE.out HP10.out hbl HR10.out
            rw [List.length_append, List.length_singleton] at hfin
            exact leaves_dec (n0 := w.heap.size) (g := w.heap.size + 1) (b := b) (s := r3) (o := o) rfl rfl (store6 HP10.out.res) (HP10.out.box.other6 (by omega)) (HR10.out.put6 (by omega) _ _ _ _ _ _) hoj (by omega) (by omega) hfin
           | none =>
            have hg4 : res = match takes [44] r2 with | some r => loopL g (o + 1) sort e r (vs.map VD.v ++ [x]) ks | none => .err 21 := by rw [Hg3.out, ht]
            have Hg4 := Lib.hid hg4
            have HT := Lib.hid ht
            clear hg4 ht
            go_wp2_with fail
            refine (takes_no b r2 [e] _ W9 HR9.out HT.out).mono ?_
            rintro e' W10 ⟨rfl, hk10, hr10⟩
            have HP10 := Lib.hid (HP9.out.turn hbl hk10)
            have HR10 := Lib.hid hr10
            clear hk10 hr10 b0
            have b0 := HP10.out.box.cell 0
            simp only [List.getElem?_toArray, List.getElem?_cons_zero] at b0
            cases ht2 : takes [44] r2 with
            | none =>
             have hE : res = .err 21 := by rw [Hg4.out, ht2]
             have HE := Lib.hid hE
             have HT2 := Lib.hid ht2
             clear hE ht2
             go_wp2_with fail
             refine (takes_no b r2 [44] _ W10 HR10.out HT2.out).mono ?_
             rintro e' W11 ⟨rfl, hk11, hr11⟩
             have HP11 := Lib.hid (HP10.out.turn hbl hk11)
             have HR11 := Lib.hid hr11
             clear hk11 hr11 b0
             have q0 := HP11.out.res.cell 0
             have q1 := HP11.out.res.cell 1
             have q2 := HP11.out.res.cell 2
             have q3 := HP11.out.res.cell 3
             have q4 := HP11.out.res.cell 4
             have q5 := HP11.out.res.cell 5
             have g0 := HP11.out.res.free 0
             have g1 := HP11.out.res.free 1
             have g2 := HP11.out.res.free 2
             have g3 := HP11.out.res.free 3
             have g4 := HP11.out.res.free 4
             have g5 := HP11.out.res.free 5
             unfold zeroV at q0 q1 q2 q3 q4 q5
             simp only [List.getElem?_toArray, List.getElem?_cons_zero, List.getElem?_cons_succ] at q0 q1 q2 q3 q4 q5
             go_wp2
             refine leaves_dec (n0 := w.heap.size) (g := w.heap.size + 1) (b := b) (s := r2) (o := ((o : Int) + 1) - 1) rfl rfl (store6 HP11.out.res) (HP11.out.box.other6 (by omega)) ?_ (by omega) (by omega) (by omega) ?_
             ·
              have := HR11.out.put6 (g := w.heap.size + 1) (by omega) (.int .i64 0) (.bool false) (.int .i64 0) (.string { data := #[] }) (.slice none 0 0) (.slice none 0 0)
              rw [show ((o : Int) + 1) - 1 + 1 = ((o : Int) + 1) by omega]
              exact this
             ·
              exact vaE_err HE.out ((HP11.out.keep.put6 (by omega) _ _ _ _ _ _).open _) ((HR11.out.put6 (by omega) _ _ _ _ _ _).open _) (by omega) (by omega)
            | some r4 =>
             have hE : g ≤ f ∧ res = loopL g (o + 1) sort e r4 ((vs ++ [d]).map VD.v) ks := ⟨by have := Hgf.out; omega, by rw [Hg4.out, ht2, List.map_append, List.map_singleton, Hdv.out]⟩
             have HE := Lib.hid hE
             have hl4 := takes_len ht2
             have HT2 := Lib.hid ht2
             clear hE ht2
             go_wp2_with fail
             refine (takes_yes b r2 [44] r4 _ W10 HR10.out HT2.out).mono ?_
             rintro e' W11 ⟨rfl, hk11, hr11⟩
             have HP11 := Lib.hid (HP10.out.turn hbl hk11)
             have HR11 := Lib.hid hr11
             have Hm : Hid (leftAt W11 b < leftAt wr b) := Lib.hid (by rw [leftAt_of HR11.out, leftAt_of hR.out]; simp only [List.length_singleton] at hl4; omega)
             have hvl' : (vs ++ [d]).length + r4.length ≤ 1048576 := by rw [List.length_append, List.length_singleton]; simp only [List.length_singleton] at hl4; omega
             have hkl' : ks.length + r4.length ≤ 1048576 := by omega
             clear hk11 hr11 b0
             go_wp2
             go_roundw
             case rel => exact ⟨g, r4, vs ++ [d], some ⟨gb, off, none⟩, c5, ks, ka, kc, HE, HP11, HR11, hvl', hkl'⟩
             case measure => exact Hm.out
          exact AllReadyH.nil
         exact AllReadyH.nil
        exact AllReadyH.nil
       exact AllReadyH.nil
      refine AllReadyH.cons (i := 4) (o := ⟨some 59, _, _, _, _, _⟩) rfl (fun K hK => ?_) ?_
      ·
       go_simp
       refine hK.out _ _ ?_ (fun hHeld => ?_)
       ·
        exact hHeld.ext (below_a1 _ _)
       try simp only [Act.put, List.setIfInBounds_toArray, List.set_cons_succ, List.set_cons_zero]
       refine wpAnyH_ready (rs := [1]) (by kernel_rfl) (by simp) ?_
       refine AllReadyH.cons (i := 1) (o := ⟨some 56, _, _, _, _, _⟩) rfl (fun K hK => ?_) ?_
       ·
        have l4b : (w7.alloc (.cells #[.int .i64 0, .bool false, .int .i64 0, .string { data := #[] }, .slice none 0 0, .slice none 0 0] 36)).cell? ⟨w.heap.size + 2, 4, none⟩ = some (.slice la vs.length lc) := below_ext (below_a1 w7 _) l4'
        have l4c : (w7.drew.alloc (.cells #[.int .i64 0, .bool false, .int .i64 0, .string { data := #[] }, .slice none 0 0, .slice none 0 0] 36)).cell? ⟨w.heap.size + 2, 4, none⟩ = some (.slice la vs.length lc) := below_ext (below_a1 w7.drew _) l4'
        go_simp
        refine hK.out _ _ ?_ (fun hHeld => ?_)
        ·
         exact hHeld
        try simp only [Act.put, List.setIfInBounds_toArray, List.set_cons_succ, List.set_cons_zero]
        refine wpAnyH_take (i := 3) (oi := ⟨some 58, _, _, _, _, _⟩) (v := ?_) rfl (by kernel_rfl) (by kernel_rfl) (by kernel_rfl) (fun _ _ _ h => h) (Or.inl ⟨by rfl, ?_⟩) (by assumption) ?_; rotate_left; focus (intro w hSw; (try dsimp only at hSw); first | (go_simp; done) | (go_simp; with_reducible rfl))
        try simp only [Act.put, List.setIfInBounds_toArray, List.set_cons_succ, List.set_cons_zero]
        refine wpAnyH_ready (rs := [5]) (by kernel_rfl) (by simp) ?_
        refine AllReadyH.cons (i := 5) (o := ⟨some 60, _, _, _, _, _⟩) rfl (fun K hK => ?_) ?_
        ·
         refine step_append_Own rfl (.tmp 56) (.tmp 59) 34 rfl (w.heap.size + 3) 36 _ 6 88 Tryz.underlying34 Tryz.infoVal rfl (by decide) la vs.length lc _ (by simp [go_sem]) (by exact HP7.out.own.alloc _) _ 1 1 [.int .i64 0, .bool false, .int .i64 0, .string { data := #[] }, .slice none 0 0, .slice none 0 0] (by simp [go_sem]; rfl) (by exact Row.new1 (by simp) rfl rfl) (by intro u hu; simp at hu; rcases hu with rfl | rfl | rfl | rfl | rfl | rfl <;> rfl) (by unfold maxLen; omega) (by omega) (by simp; omega) ?_
         intro a5 c5 w8 hown8 hg8 hbk8
         obtain ⟨gb, off, rfl⟩ := hown8.addr (by have := hown8.le; omega)
         obtain ⟨⟨s0, s1, s2, s3, s4, s5⟩, ⟨z0, z1, z2, z3, z4, z5⟩, hgb⟩ := hown8.slots6
         have hv8 : Blk w8 (w.heap.size + 2) #[.int .i64 sort, .bool false, .int .i64 0, .string { data := #[] }, .slice la vs.length lc, .slice ka ks.length kc] 36 := by
          first
           | exact Blk.grown (Blk.drew (Blk.alloc HP7.out.blk _)) hg8 (HP7.out.own.apart (by omega))
           | exact Blk.grown (Blk.alloc HP7.out.blk _) hg8 (HP7.out.own.apart (by omega))
           | exact Blk.grown (Blk.alloc (Blk.drew HP7.out.blk) _) hg8 (HP7.out.own.apart (by omega))
         have l4 := hv8.cell 4
         have m4 := hv8.free 4
         simp only [List.getElem?_toArray, List.getElem?_cons_zero, List.getElem?_cons_succ] at l4
         have hgv : gb ≠ w.heap.size + 2 := by omega
         have hxg : xb ≠ gb := by
          intro he
          have hr8 : rowOf (some ⟨gb, off, none⟩) c5 = some gb := by first | (rw [rowOf_pos (by have := hown8.le; omega)]; done) | (rw [rowOf_pos (by have := hown8.le; omega)]; rfl)
          rcases hbk8 with h | h
          ·
           exact Hxr.out (by rw [← h, hr8, he])
          ·
           rw [hr8] at h; injection h with h; have := Hxs.out; simp at h; omega
         have hgf := grown_from (w7 := w7) (by first | exact below_a1 w7 _ | exact (below_a1 w7 _).drew | exact (Below.refl _ w7).drew.alloc (Nat.le_refl _) _) hg8 hbk8
         have Hown8 := Lib.hid hown8
         have Hg8 := Lib.hid hg8
         have Hgf8 := Lib.hid hgf
         clear hown8 hg8 hbk8 hv8 hgf
         refine hK.out _ _ ?_ (fun hHeld => ?_)
         ·
          exact (hHeld).block (Hg8.out.block xb (by have := Hxl.out; simp; omega) Hxr.out)
         try simp only [Act.put, List.setIfInBounds_toArray, List.set_cons_succ, List.set_cons_zero]
         refine wpAnyH_take (i := 6) (oi := ⟨some 61, _, _, _, _, _⟩) (v := ?_) rfl (by kernel_rfl) (by kernel_rfl) (by kernel_rfl) (fun _ _ _ h => h) (Or.inl ⟨by rfl, ?_⟩) (by assumption) ?_; rotate_left; focus (intro w hSw; (try dsimp only at hSw); (have hlt1 : ((vs.length : Int) < (vs.length : Int) + 1) = True := eq_true (by omega); first | (go_simp; done) | (go_simp; with_reducible rfl)))
         try simp only [Act.put, List.setIfInBounds_toArray, List.set_cons_succ, List.set_cons_zero]
         refine wpAnyH_take (i := 8) (oi := ⟨some 62, _, _, _, _, _⟩) (v := ?_) rfl (by kernel_rfl) (by kernel_rfl) (by kernel_rfl) (fun _ _ _ h => h) (Or.inl ⟨by rfl, ?_⟩) (by assumption) ?_; rotate_left; focus (intro w hSw; (try dsimp only at hSw); first | (go_simp; done) | (go_simp; with_reducible rfl))
         try simp only [Act.put, List.setIfInBounds_toArray, List.set_cons_succ, List.set_cons_zero]
         refine wpAnyH_ready (rs := [7, 9]) (by kernel_rfl) (by simp) ?_
         refine AllReadyH.cons (i := 7) (o := ⟨none, _, _, _, _, _⟩) rfl (fun K hK => ?_) ?_
         ·
          go_simp
          refine hK.out _ _ ?_ (fun hHeld => ?_)
          ·
           exact hHeld.block (put6_other (g := gb) (o := off + vs.length * 6) hxg)
          try simp only [Act.put, List.setIfInBounds_toArray, List.set_cons_succ, List.set_cons_zero]
          refine wpAnyH_ready (rs := [9]) (by kernel_rfl) (by simp) ?_
          refine AllReadyH.cons (i := 9) (o := ⟨none, _, _, _, _, _⟩) rfl (fun K hK => ?_) ?_
          ·
           go_simp
           refine hK.out _ _ ?_ (fun hHeld => ?_)
           ·
            exact hHeld.block (Below.heap_setCell _ ⟨w.heap.size + 2, 4, none⟩ _ xb (by show xb ≠ w.heap.size + 2; have := Hxl2.out; omega))
           try simp only [Act.put, List.setIfInBounds_toArray, List.set_cons_succ, List.set_cons_zero]
           refine wpAnyH_done (by kernel_rfl) ?_ _
           have hP9 := HP7.out.pushVal (w' := put6 w8 gb (off + vs.length * 6) (.int .i64 d.sort) (.bool d.on) (.int .i64 d.n) (.string ⟨d.text.toArray⟩) (.slice d.a d.list.length d.c) (.slice d.ka d.keys.length d.kc)) (x := d) HD7.out (Own.put6 d Hown8.out)
            (fun j hj h1 h2 => (put6_other (fun e => h2 (by rw [rowOf_pos (by have := Hown8.out.le; omega), e]; rfl))).trans (Hgf8.out.1 j hj h1)) (put6_below Hgf8.out.2.1 (Nat.zero_le _)) Hgf8.out.2.2
           have hbg : b ≠ gb := by omega
           have hR9 : RdAt ((put6 w8 gb (off + vs.length * 6) (.int .i64 d.sort) (.bool d.on) (.int .i64 d.n) (.string ⟨d.text.toArray⟩) (.slice d.a d.list.length d.c) (.slice d.ka d.keys.length d.kc)).setCell ⟨w.heap.size + 2, 4, none⟩ (.slice (some ⟨gb, off, none⟩) (vs.length + 1) c5)) b r2 ((o : Int) + 1) :=
            Blk.other (p := ⟨w.heap.size + 2, 4, none⟩) ((put6_other hbg).trans ((Hgf8.out.1 b (Blk.lt HR7.out) (HP7.out.own.apart (by omega))).trans HR7.out)) (by show b ≠ w.heap.size + 2; omega) _
           obtain ⟨W9, hW9⟩ : ∃ W9, W9 = (((((((w8.setCell ⟨gb, off + vs.length * 6, none⟩ (.int .i64 d.sort)).setCell ⟨gb, off + vs.length * 6 + 1, none⟩ (.bool d.on)).setCell ⟨gb, off + vs.length * 6 + 2, none⟩ (.int .i64 d.n)).setCell ⟨gb, off + vs.length * 6 + 3, none⟩ (.string ⟨d.text.toArray⟩)).setCell ⟨gb, off + vs.length * 6 + 4, none⟩ (.slice d.a d.list.length d.c)).setCell ⟨gb, off + vs.length * 6 + 5, none⟩ (.slice d.ka d.keys.length d.kc)).setCell ⟨w.heap.size + 1 + 1, 4, none⟩ (.slice (some ⟨gb, off, none⟩) (vs.length + 1) c5)) := ⟨_, rfl⟩
           rw [← hW9]
           have HP9 : Hid (PV w W9 b sort (vs ++ [d]) (some ⟨gb, off, none⟩) c5 ks ka kc) := Lib.hid (by rw [hW9]; exact hP9)
           have HR9 : Hid (RdAt W9 b r2 ((o : Int) + 1)) := Lib.hid (by rw [hW9]; exact hR9)
           clear hP9 hR9 hW9 hbg s0 s1 s2 s3 s4 s5 z0 z1 z2 z3 z4 z5 hgb l4 m4 hgv hxg Hown8 Hg8 Hgf8 HX Hxr Hxl Hxs Hxl2 HP7 HR7 HD7 l4'
           have b0 := HP9.out.box.cell 0
           simp only [List.getElem?_toArray, List.getElem?_cons_zero] at b0
           cases ht : takes [e] r2 with
           | some r3 =>
            have hE : res = .ok (.mk sort false 0 [] ((vs ++ [d]).map VD.v) ks) r3 := by rw [Hg3.out, ht, List.map_append, List.map_singleton, Hdv.out]
            have HE := Lib.hid hE
            have HT := Lib.hid ht
            clear hE ht
            go_wp2_with fail
            refine (takes_yes b r2 [e] r3 _ W9 HR9.out HT.out).mono ?_
            rintro e' W10 ⟨rfl, hk10, hr10⟩
            have hp10 := HP9.out.turn hbl hk10
            have HR10 := Lib.hid hr10
            have HP10 := Lib.hid hp10
            have v0 := hp10.blk.cell 0
            have v1 := hp10.blk.cell 1
            have v2 := hp10.blk.cell 2
            have v3 := hp10.blk.cell 3
            have v4 := hp10.blk.cell 4
            have v5 := hp10.blk.cell 5
            simp only [List.getElem?_toArray, List.getElem?_cons_zero, List.getElem?_cons_succ] at v0 v1 v2 v3 v4 v5
            rw [List.length_append, List.length_singleton] at v4
            clear hk10 hr10 b0 hp10
            have q0 := HP10.out.res.cell 0
            have q1 := HP10.out.res.cell 1
            have q2 := HP10.out.res.cell 2
            have q3 := HP10.out.res.cell 3
            have q4 := HP10.out.res.cell 4
            have q5 := HP10.out.res.cell 5
            have g0 := HP10.out.res.free 0
            have g1 := HP10.out.res.free 1
            have g2 := HP10.out.res.free 2
            have g3 := HP10.out.res.free 3
            have g4 := HP10.out.res.free 4
            have g5 := HP10.out.res.free 5
            unfold zeroV at q0 q1 q2 q3 q4 q5
            simp only [List.getElem?_toArray, List.getElem?_cons_zero, List.getElem?_cons_succ] at q0 q1 q2 q3 q4 q5
            go_wp2
            have hfin := vaE_parts (o := o) HE.out HP10.out hbl HR10.out
            rw [List.length_append, List.length_singleton] at hfin
            exact leaves_dec (n0 := w.heap.size) (g := w.heap.size + 1) (b := b) (s := r3) (o := o) rfl rfl (store6 HP10.out.res) (HP10.out.box.other6 (by omega)) (HR10.out.put6 (by omega) _ _ _ _ _ _) hoj (by omega) (by omega) hfin
           | none =>
            have hg4 : res = match takes [44] r2 with | some r => loopL g (o + 1) sort e r (vs.map VD.v ++ [x]) ks | none => .err 21 := by rw [Hg3.out, ht]
            have Hg4 := Lib.hid hg4
            have HT := Lib.hid ht
            clear hg4 ht
            go_wp2_with fail
            refine (takes_no b r2 [e] _ W9 HR9.out HT.out).mono ?_
            rintro e' W10 ⟨rfl, hk10, hr10⟩
            have HP10 := Lib.hid (HP9.out.turn hbl hk10)
            have HR10 := Lib.hid hr10
            clear hk10 hr10 b0
            have b0 := HP10.out.box.cell 0
            simp only [List.getElem?_toArray, List.getElem?_cons_zero] at b0
            cases ht2 : takes [44] r2 with
            | none =>
             have hE : res = .err 21 := by rw [Hg4.out, ht2]
             have HE := Lib.hid hE
             have HT2 := Lib.hid ht2
             clear hE ht2
             go_wp2_with fail
             refine (takes_no b r2 [44] _ W10 HR10.out HT2.out).mono ?_
             rintro e' W11 ⟨rfl, hk11, hr11⟩
             have HP11 := Lib.hid (HP10.out.turn hbl hk11)
             have HR11 := Lib.hid hr11
             clear hk11 hr11 b0
             have q0 := HP11.out.res.cell 0
             have q1 := HP11.out.res.cell 1
             have q2 := HP11.out.res.cell 2
             have q3 := HP11.out.res.cell 3
             have q4 := HP11.out.res.cell 4
             have q5 := HP11.out.res.cell 5
             have g0 := HP11.out.res.free 0
             have g1 := HP11.out.res.free 1
             have g2 := HP11.out.res.free 2
             have g3 := HP11.out.res.free 3
             have g4 := HP11.out.res.free 4
             have g5 := HP11.out.res.free 5
             unfold zeroV at q0 q1 q2 q3 q4 q5
             simp only [List.getElem?_toArray, List.getElem?_cons_zero, List.getElem?_cons_succ] at q0 q1 q2 q3 q4 q5
             go_wp2
             refine leaves_dec (n0 := w.heap.size) (g := w.heap.size + 1) (b := b) (s := r2) (o := ((o : Int) + 1) - 1) rfl rfl (store6 HP11.out.res) (HP11.out.box.other6 (by omega)) ?_ (by omega) (by omega) (by omega) ?_
             ·
              have := HR11.out.put6 (g := w.heap.size + 1) (by omega) (.int .i64 0) (.bool false) (.int .i64 0) (.string { data := #[] }) (.slice none 0 0) (.slice none 0 0)
              rw [show ((o : Int) + 1) - 1 + 1 = ((o : Int) + 1) by omega]
              exact this
             ·
              exact vaE_err HE.out ((HP11.out.keep.put6 (by omega) _ _ _ _ _ _).open _) ((HR11.out.put6 (by omega) _ _ _ _ _ _).open _) (by omega) (by omega)
            | some r4 =>
             have hE : g ≤ f ∧ res = loopL g (o + 1) sort e r4 ((vs ++ [d]).map VD.v) ks := ⟨by have := Hgf.out; omega, by rw [Hg4.out, ht2, List.map_append, List.map_singleton, Hdv.out]⟩
             have HE := Lib.hid hE
             have hl4 := takes_len ht2
             have HT2 := Lib.hid ht2
             clear hE ht2
             go_wp2_with fail
             refine (takes_yes b r2 [44] r4 _ W10 HR10.out HT2.out).mono ?_
             rintro e' W11 ⟨rfl, hk11, hr11⟩
             have HP11 := Lib.hid (HP10.out.turn hbl hk11)
             have HR11 := Lib.hid hr11
             have Hm : Hid (leftAt W11 b < leftAt wr b) := Lib.hid (by rw [leftAt_of HR11.out, leftAt_of hR.out]; simp only [List.length_singleton] at hl4; omega)
             have hvl' : (vs ++ [d]).length + r4.length ≤ 1048576 := by rw [List.length_append, List.length_singleton]; simp only [List.length_singleton] at hl4; omega
             have hkl' : ks.length + r4.length ≤ 1048576 := by omega
             clear hk11 hr11 b0
             go_wp2
             go_roundw
             case rel => exact ⟨g, r4, vs ++ [d], some ⟨gb, off, none⟩, c5, ks, ka, kc, HE, HP11, HR11, hvl', hkl'⟩
             case measure => exact Hm.out
          exact AllReadyH.nil
         refine AllReadyH.cons (i := 9) (o := ⟨none, _, _, _, _, _⟩) rfl (fun K hK => ?_) ?_
         ·
          go_simp
          refine hK.out _ _ ?_ (fun hHeld => ?_)
          ·
           exact hHeld.block (Below.heap_setCell _ ⟨w.heap.size + 2, 4, none⟩ _ xb (by show xb ≠ w.heap.size + 2; have := Hxl2.out; omega))
          try simp only [Act.put, List.setIfInBounds_toArray, List.set_cons_succ, List.set_cons_zero]
          refine wpAnyH_ready (rs := [7]) (by kernel_rfl) (by simp) ?_
          refine AllReadyH.cons (i := 7) (o := ⟨none, _, _, _, _, _⟩) rfl (fun K hK => ?_) ?_
          ·
           go_simp
           refine hK.out _ _ ?_ (fun hHeld => ?_)
           ·
            exact hHeld.block (put6_other (g := gb) (o := off + vs.length * 6) hxg)
           try simp only [Act.put, List.setIfInBounds_toArray, List.set_cons_succ, List.set_cons_zero]
           refine wpAnyH_done (by kernel_rfl) ?_ _
           have hP9 := HP7.out.pushVal (w' := put6 w8 gb (off + vs.length * 6) (.int .i64 d.sort) (.bool d.on) (.int .i64 d.n) (.string ⟨d.text.toArray⟩) (.slice d.a d.list.length d.c) (.slice d.ka d.keys.length d.kc)) (x := d) HD7.out (Own.put6 d Hown8.out)
            (fun j hj h1 h2 => (put6_other (fun e => h2 (by rw [rowOf_pos (by have := Hown8.out.le; omega), e]; rfl))).trans (Hgf8.out.1 j hj h1)) (put6_below Hgf8.out.2.1 (Nat.zero_le _)) Hgf8.out.2.2
           have hbg : b ≠ gb := by omega
           have hR9 : RdAt ((put6 w8 gb (off + vs.length * 6) (.int .i64 d.sort) (.bool d.on) (.int .i64 d.n) (.string ⟨d.text.toArray⟩) (.slice d.a d.list.length d.c) (.slice d.ka d.keys.length d.kc)).setCell ⟨w.heap.size + 2, 4, none⟩ (.slice (some ⟨gb, off, none⟩) (vs.length + 1) c5)) b r2 ((o : Int) + 1) :=
            Blk.other (p := ⟨w.heap.size + 2, 4, none⟩) ((put6_other hbg).trans ((Hgf8.out.1 b (Blk.lt HR7.out) (HP7.out.own.apart (by omega))).trans HR7.out)) (by show b ≠ w.heap.size + 2; omega) _
           rw [← put6_comm (q := ⟨w.heap.size + 2, 4, none⟩) hgv] at hP9 hR9
           obtain ⟨W9, hW9⟩ : ∃ W9, W9 = (((((((w8.setCell ⟨w.heap.size + 1 + 1, 4, none⟩ (.slice (some ⟨gb, off, none⟩) (vs.length + 1) c5)).setCell ⟨gb, off + vs.length * 6, none⟩ (.int .i64 d.sort)).setCell ⟨gb, off + vs.length * 6 + 1, none⟩ (.bool d.on)).setCell ⟨gb, off + vs.length * 6 + 2, none⟩ (.int .i64 d.n)).setCell ⟨gb, off + vs.length * 6 + 3, none⟩ (.string ⟨d.text.toArray⟩)).setCell ⟨gb, off + vs.length * 6 + 4, none⟩ (.slice d.a d.list.length d.c)).setCell ⟨gb, off + vs.length * 6 + 5, none⟩ (.slice d.ka d.keys.length d.kc)) := ⟨_, rfl⟩
           rw [← hW9]
           have HP9 : Hid (PV w W9 b sort (vs ++ [d]) (some ⟨gb, off, none⟩) c5 ks ka kc) := Lib.hid (by rw [hW9]; exact hP9)
           have HR9 : Hid (RdAt W9 b r2 ((o : Int) + 1)) := Lib.hid (by rw [hW9]; exact hR9)
           clear hP9 hR9 hW9 hbg s0 s1 s2 s3 s4 s5 z0 z1 z2 z3 z4 z5 hgb l4 m4 hgv hxg Hown8 Hg8 Hgf8 HX Hxr Hxl Hxs Hxl2 HP7 HR7 HD7 l4'
           have b0 := HP9.out.box.cell 0
           simp only [List.getElem?_toArray, List.getElem?_cons_zero] at b0
           cases ht : takes [e] r2 with
           | some r3 =>
            have hE : res = .ok (.mk sort false 0 [] ((vs ++ [d]).map VD.v) ks) r3 := by rw [Hg3.out, ht, List.map_append, List.map_singleton, Hdv.out]
            have HE := Lib.hid hE
            have HT := Lib.hid ht
            clear hE ht
            go_wp2_with fail
            refine (takes_yes b r2 [e] r3 _ W9 HR9.out HT.out).mono ?_
            rintro e' W10 ⟨rfl, hk10, hr10⟩
            have hp10 := HP9.out.turn hbl hk10
            have HR10 := Lib.hid hr10
            have HP10 := Lib.hid hp10
            have v0 := hp10.blk.cell 0
            have v1 := hp10.blk.cell 1
            have v2 := hp10.blk.cell 2
            have v3 := hp10.blk.cell 3
            have v4 := hp10.blk.cell 4
            have v5 := hp10.blk.cell 5
            simp only [List.getElem?_toArray, List.getElem?_cons_zero, List.getElem?_cons_succ] at v0 v1 v2 v3 v4 v5
            rw [List.length_append, List.length_singleton] at v4
            clear hk10 hr10 b0 hp10
            have q0 := HP10.out.res.cell 0
            have q1 := HP10.out.res.cell 1
            have q2 := HP10.out.res.cell 2
            have q3 := HP10.out.res.cell 3
            have q4 := HP10.out.res.cell 4
            have q5 := HP10.out.res.cell 5
            have g0 := HP10.out.res.free 0
            have g1 := HP10.out.res.free 1
            have g2 := HP10.out.res.free 2
            have g3 := HP10.out.res.free 3
            have g4 := HP10.out.res.free 4
            have g5 := HP10.out.res.free 5
            unfold zeroV at q0 q1 q2 q3 q4 q5
            simp only [List.getElem?_toArray, List.getElem?_cons_zero, List.getElem?_cons_succ] at q0 q1 q2 q3 q4 q5
            go_wp2
            have hfin := vaE_parts (o := o) HE.out HP10.out hbl HR10.out
            rw [List.length_append, List.length_singleton] at hfin
            exact leaves_dec (n0 := w.heap.size) (g := w.heap.size + 1) (b := b) (s := r3) (o := o) rfl rfl (store6 HP10.out.res) (HP10.out.box.other6 (by omega)) (HR10.out.put6 (by omega) _ _ _ _ _ _) hoj (by omega) (by omega) hfin
           | none =>
            have hg4 : res = match takes [44] r2 with | some r => loopL g (o + 1) sort e r (vs.map VD.v ++ [x]) ks | none => .err 21 := by rw [Hg3.out, ht]
            have Hg4 := Lib.hid hg4
            have HT := Lib.hid ht
            clear hg4 ht
            go_wp2_with fail
            refine (takes_no b r2 [e] _ W9 HR9.out HT.out).mono ?_
            rintro e' W10 ⟨rfl, hk10, hr10⟩
            have HP10 := Lib.hid (HP9.out.turn hbl hk10)
            have HR10 := Lib.hid hr10
            clear hk10 hr10 b0
            have b0 := HP10.out.box.cell 0
            simp only [List.getElem?_toArray, List.getElem?_cons_zero] at b0
            cases ht2 : takes [44] r2 with
            | none =>
             have hE : res = .err 21 := by rw [Hg4.out, ht2]
             have HE := Lib.hid hE
             have HT2 := Lib.hid ht2
             clear hE ht2
             go_wp2_with fail
             refine (takes_no b r2 [44] _ W10 HR10.out HT2.out).mono ?_
             rintro e' W11 ⟨rfl, hk11, hr11⟩
             have HP11 := Lib.hid (HP10.out.turn hbl hk11)
             have HR11 := Lib.hid hr11
             clear hk11 hr11 b0
             have q0 := HP11.out.res.cell 0
             have q1 := HP11.out.res.cell 1
             have q2 := HP11.out.res.cell 2
             have q3 := HP11.out.res.cell 3
             have q4 := HP11.out.res.cell 4
             have q5 := HP11.out.res.cell 5
             have g0 := HP11.out.res.free 0
             have g1 := HP11.out.res.free 1
             have g2 := HP11.out.res.free 2
             have g3 := HP11.out.res.free 3
             have g4 := HP11.out.res.free 4
             have g5 := HP11.out.res.free 5
             unfold zeroV at q0 q1 q2 q3 q4 q5
             simp only [List.getElem?_toArray, List.getElem?_cons_zero, List.getElem?_cons_succ] at q0 q1 q2 q3 q4 q5
             go_wp2
             refine leaves_dec (n0 := w.heap.size) (g := w.heap.size + 1) (b := b) (s := r2) (o := ((o : Int) + 1) - 1) rfl rfl (store6 HP11.out.res) (HP11.out.box.other6 (by omega)) ?_ (by omega) (by omega) (by omega) ?_
             ·
              have := HR11.out.put6 (g := w.heap.size + 1) (by omega) (.int .i64 0) (.bool false) (.int .i64 0) (.string { data := #[] }) (.slice none 0 0) (.slice none 0 0)
              rw [show ((o : Int) + 1) - 1 + 1 = ((o : Int) + 1) by omega]
              exact this
             ·
              exact vaE_err HE.out ((HP11.out.keep.put6 (by omega) _ _ _ _ _ _).open _) ((HR11.out.put6 (by omega) _ _ _ _ _ _).open _) (by omega) (by omega)
            | some r4 =>
             have hE : g ≤ f ∧ res = loopL g (o + 1) sort e r4 ((vs ++ [d]).map VD.v) ks := ⟨by have := Hgf.out; omega, by rw [Hg4.out, ht2, List.map_append, List.map_singleton, Hdv.out]⟩
             have HE := Lib.hid hE
             have hl4 := takes_len ht2
             have HT2 := Lib.hid ht2
             clear hE ht2
             go_wp2_with fail
             refine (takes_yes b r2 [44] r4 _ W10 HR10.out HT2.out).mono ?_
             rintro e' W11 ⟨rfl, hk11, hr11⟩
             have HP11 := Lib.hid (HP10.out.turn hbl hk11)
             have HR11 := Lib.hid hr11
             have Hm : Hid (leftAt W11 b < leftAt wr b) := Lib.hid (by rw [leftAt_of HR11.out, leftAt_of hR.out]; simp only [List.length_singleton] at hl4; omega)
             have hvl' : (vs ++ [d]).length + r4.length ≤ 1048576 := by rw [List.length_append, List.length_singleton]; simp only [List.length_singleton] at hl4; omega
             have hkl' : ks.length + r4.length ≤ 1048576 := by omega
             clear hk11 hr11 b0
             go_wp2
             go_roundw
             case rel => exact ⟨g, r4, vs ++ [d], some ⟨gb, off, none⟩, c5, ks, ka, kc, HE, HP11, HR11, hvl', hkl'⟩
             case measure => exact Hm.out
          exact AllReadyH.nil
         exact AllReadyH.nil
        exact AllReadyH.nil
       exact AllReadyH.nil
      exact AllReadyH.nil
end Go.Proofs.YthnbeebilomchaaGreatDoor

namespace Go.Proofs.YthnbeebilomchaaGreatDoor
open Go Go.RowKit

theorem parts_any (f : Nat) (HV : Hid (∀ g, g ≤ f → ∀ (b : Nat) (s : Nm) (o : Nat) (w : World), Glob w → 8 ≤ b → RdAt w b s o → s.length ≤ 1048576 → o ≤ 20 → valL g o s ≠ .out → Calls Tryz.prog 52 #[.pointer (some ⟨b, 0, none⟩)] w (VaE w b o (valL g o s))))
  (b : Nat) (s : Nm) (o : Nat) (sort : Int) (e : UInt8) (w : World) (hG : Glob w) (hb8 : 8 ≤ b) (h : RdAt w b s o) (hs : s.length ≤ 1048576) (ho : o ≤ 20) (hne : partsL (f + 1) o sort e s ≠ .out) :
  Calls Tryz.prog 76 #[.pointer (some ⟨b, 0, none⟩), .int .i64 sort, .string ⟨([e] : Nm).toArray⟩] w (VaE w b o (partsL (f + 1) o sort e s)) := by
 have hp := partsL_step f o sort e s
 by_cases h20 : 20 ≤ o
 ·
  rw [if_pos h20] at hp
  exact parts_deep b s o sort e w h h20 (by omega) _ hp
 ·
  rw [if_neg h20] at hp
  cases ht : takes [e] (skip s) with
  | some r =>
   rw [ht] at hp
   exact parts_empty b s r o sort e w h (by omega) ht _ hp
  | none =>
   rw [ht] at hp
   exact parts_loop f HV b s o sort e w hG hb8 h hs (by omega) ht _ hp hne
theorem store6_val {w : World} {g : Nat} {v0 v1 v2 v3 v4 v5 : Value} {T : TypeId} (d : VD) (h : Blk w g #[v0, v1, v2, v3, v4, v5] T) : Blk (put6 w g 0 (.int .i64 d.sort) (.bool d.on) (.int .i64 d.n) (.string ⟨d.text.toArray⟩) (.slice d.a d.list.length d.c) (.slice d.ka d.keys.length d.kc)) g #[.int .i64 d.sort, .bool d.on, .int .i64 d.n, .string ⟨d.text.toArray⟩, .slice d.a d.list.length d.c, .slice d.ka d.keys.length d.kc] T := by
  simpa [put6] using store6 (u0 := .int .i64 d.sort) (u1 := .bool d.on) (u2 := .int .i64 d.n) (u3 := .string ⟨d.text.toArray⟩) (u4 := .slice d.a d.list.length d.c) (u5 := .slice d.ka d.keys.length d.kc) h

def VbE (w : World) (b : Nat) (o : Int) (res : Res) (d : VD) (k : Int) (t : Nm) (o' : Int) (w' : World) : Prop :=
  Keep b w w' ∧ RdAt w' b t o' ∧ o ≤ o' ∧ o' ≤ o + 1 ∧ match res with
  | .out => False
  | .err j => k = j
  | .ok v t' => k = 0 ∧ d.v = v ∧ ValAt w' (fun k => w.heap.size ≤ k) d ∧ t = t' ∧ o' = o
theorem vbE_of {w w' : World} {b : Nat} {o : Int} {res : Res} {e : Ending} (h : VaE w b o res e w') (hne : res ≠ .out) : ∃ d k t o', e = .returned (.tuple #[VD.val d, .int .i64 k]) ∧ VbE w b o res d k t o' w' := by
  cases res with
  | out => exact absurd rfl hne
  | err j =>
    obtain ⟨d, t, o', he, hk, hr, h1, h2⟩ := h
    exact ⟨d, j, t, o', he, hk, hr, h1, h2, rfl⟩
  | ok v t =>
    obtain ⟨d, he, hv, ha, hk, hr⟩ := h
    exact ⟨d, 0, t, o, he, hk, hr, by omega, by omega, rfl, hv, ha, rfl, rfl⟩
theorem vaE_fin {w w0 W : World} {b : Nat} {o : Int} {res : Res} {d : VD} {k : Int} {t : Nm} {o' : Int} (h : VbE w0 b o res d k t o' W) {w' : World} (hk : Keep b w w') (hr : RdAt w' b (skip t) o') (ha : ValAt W (fun k => w.heap.size + 1 ≤ k) d → ValAt w' (fun k => w.heap.size ≤ k) d) (hd : ∀ v t', res = .ok v t' → ValAt W (fun k => w.heap.size + 1 ≤ k) d) :
    VaE w b o (finL res) (.returned (.tuple #[.agg #[.int .i64 d.sort, .bool d.on, .int .i64 d.n, .string ⟨d.text.toArray⟩, .slice d.a d.list.length d.c, .slice d.ka d.keys.length d.kc], .int .i64 k])) w' := by
  obtain ⟨-, -, h1, h2, h3⟩ := h
  rw [← VD.val_eq']
  cases res with
  | out => exact h3.elim
  | err j =>
    obtain rfl := h3
    exact ⟨d, _, o', rfl, hk, hr, h1, h2⟩
  | ok v t' =>
    obtain ⟨rfl, hv, -, rfl, rfl⟩ := h3
    exact ⟨d, rfl, hv, ha (hd _ _ rfl), hk, hr⟩

set_option maxHeartbeats 4000000 in
theorem value_rec (b : Nat) (s : Nm) (o : Nat) (w : World) (h : RdAt w b s o) (res : Res) (hne : res ≠ .out) (r : Nm) (t1 : takes [123] (skip s) = some r) (hc : ∀ w', Keep b w w' → RdAt w' b r o → Calls Tryz.prog 76 #[.pointer (some ⟨b, 0, none⟩), .int .i64 5, .string { data := #[125] }] w' (VaE w' b o res)) :
  Calls Tryz.prog 52 #[.pointer (some ⟨b, 0, none⟩)] w (VaE w b o (finL res)) := by
 have hbl := Blk.lt h
 have hg : w.heap.size ≠ b := by omega
 have hz0 : Blk (w.alloc (.cells zeroV 36)) w.heap.size zeroV 36 := Blk.new rfl
 have h1 := skip_any b s o (w.alloc (.cells zeroV 36)) (h.ext (below_a1 _ _))
 have H1 := Lib.hid h1
 have HZ0 := Lib.hid hz0
 have Hne := Lib.hid hne
 unfold zeroV at H1
 have HC := Lib.hid hc
 have T1 := Lib.hid t1
 clear hc t1
 clear h1 h hz0 hne
 go_enter Tryz.func52, Tryz.ntmps52
 go_wp2_with fail
 refine H1.out.mono ?_
 rintro e w1 ⟨rfl, hk1, hr1⟩
 have HZ1 := Lib.hid (hk1.blk HZ0.out hg)
 have HK1 := Lib.hid hk1.since
 have HR1 := Lib.hid hr1
 have hs1 : w.heap.size + 1 ≤ w1.heap.size := by have := hk1.size; simpa using this
 clear hk1 hr1 H1 HZ0
 go_wp2_with fail
 refine (takes_yes b (skip s) [123] r o w1 HR1.out T1.out).mono ?_
 rintro e w2 ⟨rfl, hk, hr⟩
 have HZ2 := Lib.hid (hk.blk HZ1.out hg)
 have HK2 := Lib.hid (HK1.out.trans hk)
 have HR2 := Lib.hid hr
 have hs2 : w.heap.size + 1 ≤ w2.heap.size := Nat.le_trans hs1 hk.size
 clear hk hr
 go_wp2_with fail
 refine (HC.out w2 HK2.out HR2.out).mono ?_
 intro e w8 hva
 obtain ⟨d, j, t, o', rfl, hvb⟩ := vbE_of hva Hne.out
 have hk8 := hvb.1
 have hr8 := hvb.2.1
 have hz8 := hk8.blk HZ2.out hg
 have HVB := Lib.hid hvb
 have HD : Hid (∀ v t', res = .ok v t' → ValAt w8 (fun k => w.heap.size + 1 ≤ k) d) := Lib.hid fun v t' he => by
  have h := hvb.2.2.2.2
  rw [he] at h
  exact h.2.2.1.mono fun k hk _ => by omega
 have HK8 := Lib.hid (HK2.out.trans hk8)
 have HR8 := Lib.hid hr8
 have HZ8 := Lib.hid hz8
 unfold zeroV at hz8
 have c0 := hz8.cell 0
 have c1 := hz8.cell 1
 have c2 := hz8.cell 2
 have c3 := hz8.cell 3
 have c4 := hz8.cell 4
 have c5 := hz8.cell 5
 have f0 := hz8.free 0
 have f1 := hz8.free 1
 have f2 := hz8.free 2
 have f3 := hz8.free 3
 have f4 := hz8.free 4
 have f5 := hz8.free 5
 simp only [List.getElem?_toArray, List.getElem?_cons_zero, List.getElem?_cons_succ] at c0 c1 c2 c3 c4 c5
 clear hva hvb hk8 hr8 hz8
 rw [VD.val_eq']
 go_upto_region 7 with (fail)
 have hst := store6_val d HZ8.out
 have hrp : RdAt (put6 w8 w.heap.size 0 (.int .i64 d.sort) (.bool d.on) (.int .i64 d.n) (.string ⟨d.text.toArray⟩) (.slice d.a d.list.length d.c) (.slice d.ka d.keys.length d.kc)) b t o' := (put6_other (by omega)).trans HR8.out
 have hkp : Keep b w (put6 w8 w.heap.size 0 (.int .i64 d.sort) (.bool d.on) (.int .i64 d.n) (.string ⟨d.text.toArray⟩) (.slice d.a d.list.length d.c) (.slice d.ka d.keys.length d.kc)) := HK8.out.put6 (Nat.le_refl _) _ _ _ _ _ _
 have hoth : ∀ j, w.heap.size + 1 ≤ j → (put6 w8 w.heap.size 0 (.int .i64 d.sort) (.bool d.on) (.int .i64 d.n) (.string ⟨d.text.toArray⟩) (.slice d.a d.list.length d.c) (.slice d.ka d.keys.length d.kc)).heap[j]? = w8.heap[j]? := fun j hj => put6_other (by omega)
 obtain ⟨w9, hw9⟩ : ∃ w9, w9 = put6 w8 w.heap.size 0 (.int .i64 d.sort) (.bool d.on) (.int .i64 d.n) (.string ⟨d.text.toArray⟩) (.slice d.a d.list.length d.c) (.slice d.ka d.keys.length d.kc) := ⟨_, rfl⟩
 rw [← hw9] at hst hrp hkp hoth
 have HST := Lib.hid hst
 have HRP := Lib.hid hrp
 have HKP := Lib.hid hkp
 have HO := Lib.hid hoth
 unfold put6 at hw9
 try simp only [Nat.zero_add] at hw9
 rw [← hw9]
 clear hst hrp hkp hoth hw9 c0 c1 c2 c3 c4 c5 f0 f1 f2 f3 f4 f5
 go_wp2_with fail
 refine (skip_any b t o' w9 HRP.out).mono ?_
 rintro e w10 ⟨rfl, hk10, hr10⟩
 have hst10 := hk10.blk HST.out hg
 have HK10 := Lib.hid (HKP.out.trans hk10)
 have HR10 := Lib.hid hr10
 have HA : Hid (ValAt w8 (fun k => w.heap.size + 1 ≤ k) d → ValAt w10 (fun k => w.heap.size + 1 ≤ k) d) := Lib.hid fun ha =>
  (ha.congr (w' := w9) fun k hk _ => HO.out k hk).congr (w' := w10) fun k hk hl => hk10.block hl (by omega)
 have HST10 := Lib.hid hst10
 have c0 := hst10.cell 0
 have c1 := hst10.cell 1
 have c2 := hst10.cell 2
 have c3 := hst10.cell 3
 have c4 := hst10.cell 4
 have c5 := hst10.cell 5
 have f0 := hst10.free 0
 have f1 := hst10.free 1
 have f2 := hst10.free 2
 have f3 := hst10.free 3
 have f4 := hst10.free 4
 have f5 := hst10.free 5
 simp only [List.getElem?_toArray, List.getElem?_cons_zero, List.getElem?_cons_succ] at c0 c1 c2 c3 c4 c5
 clear hk10 hr10 hst10
 go_wp2
 have hfin := store6_val d HST10.out
 have hrf : RdAt (put6 w10 w.heap.size 0 (.int .i64 d.sort) (.bool d.on) (.int .i64 d.n) (.string ⟨d.text.toArray⟩) (.slice d.a d.list.length d.c) (.slice d.ka d.keys.length d.kc)) b (skip t) o' := (put6_other (by omega)).trans HR10.out
 have hkf : Keep b w (put6 w10 w.heap.size 0 (.int .i64 d.sort) (.bool d.on) (.int .i64 d.n) (.string ⟨d.text.toArray⟩) (.slice d.a d.list.length d.c) (.slice d.ka d.keys.length d.kc)) := HK10.out.put6 (Nat.le_refl _) _ _ _ _ _ _
 have haf : ValAt w8 (fun k => w.heap.size + 1 ≤ k) d → ValAt (put6 w10 w.heap.size 0 (.int .i64 d.sort) (.bool d.on) (.int .i64 d.n) (.string ⟨d.text.toArray⟩) (.slice d.a d.list.length d.c) (.slice d.ka d.keys.length d.kc)) (fun k => w.heap.size ≤ k) d := fun ha =>
  ((HA.out ha).congr (w' := (put6 w10 w.heap.size 0 (.int .i64 d.sort) (.bool d.on) (.int .i64 d.n) (.string ⟨d.text.toArray⟩) (.slice d.a d.list.length d.c) (.slice d.ka d.keys.length d.kc))) fun k hk _ => put6_other (by omega)).mono fun k hk _ => by omega
 have hend := vaE_fin HVB.out hkf hrf haf HD.out
 obtain ⟨W, hW⟩ : ∃ W, W = (put6 w10 w.heap.size 0 (.int .i64 d.sort) (.bool d.on) (.int .i64 d.n) (.string ⟨d.text.toArray⟩) (.slice d.a d.list.length d.c) (.slice d.ka d.keys.length d.kc)) := ⟨_, rfl⟩
 rw [← hW] at hfin hend
 unfold put6 at hW
 try simp only [Nat.zero_add] at hW
 rw [← hW]
 have d0 := hfin.cell 0
 have d1 := hfin.cell 1
 have d2 := hfin.cell 2
 have d3 := hfin.cell 3
 have d4 := hfin.cell 4
 have d5 := hfin.cell 5
 simp only [List.getElem?_toArray, List.getElem?_cons_zero, List.getElem?_cons_succ] at d0 d1 d2 d3 d4 d5
 exact bodyPost_ret (v := .tuple #[.agg #[.int .i64 d.sort, .bool d.on, .int .i64 d.n, .string ⟨d.text.toArray⟩, .slice d.a d.list.length d.c, .slice d.ka d.keys.length d.kc], .int .i64 j]) (by simp [results, Tryz.results52, go_sem, d0, d1, d2, d3, d4, d5]) rfl hend

set_option maxHeartbeats 4000000 in
theorem value_list (b : Nat) (s : Nm) (o : Nat) (w : World) (h : RdAt w b s o) (res : Res) (hne : res ≠ .out) (r : Nm) (t1 : takes [123] (skip s) = none) (t2 : takes [91] (skip s) = some r) (hc : ∀ w', Keep b w w' → RdAt w' b r o → Calls Tryz.prog 76 #[.pointer (some ⟨b, 0, none⟩), .int .i64 4, .string { data := #[93] }] w' (VaE w' b o res)) :
  Calls Tryz.prog 52 #[.pointer (some ⟨b, 0, none⟩)] w (VaE w b o (finL res)) := by
 have hbl := Blk.lt h
 have hg : w.heap.size ≠ b := by omega
 have hz0 : Blk (w.alloc (.cells zeroV 36)) w.heap.size zeroV 36 := Blk.new rfl
 have h1 := skip_any b s o (w.alloc (.cells zeroV 36)) (h.ext (below_a1 _ _))
 have H1 := Lib.hid h1
 have HZ0 := Lib.hid hz0
 have Hne := Lib.hid hne
 unfold zeroV at H1
 have HC := Lib.hid hc
 have T1 := Lib.hid t1
 have T2 := Lib.hid t2
 clear hc t1 t2
 clear h1 h hz0 hne
 go_enter Tryz.func52, Tryz.ntmps52
 go_wp2_with fail
 refine H1.out.mono ?_
 rintro e w1 ⟨rfl, hk1, hr1⟩
 have HZ1 := Lib.hid (hk1.blk HZ0.out hg)
 have HK1 := Lib.hid hk1.since
 have HR1 := Lib.hid hr1
 have hs1 : w.heap.size + 1 ≤ w1.heap.size := by have := hk1.size; simpa using this
 clear hk1 hr1 H1 HZ0
 go_wp2_with fail
 refine (takes_no b (skip s) [123] o w1 HR1.out T1.out).mono ?_
 rintro e w2 ⟨rfl, hk, hr⟩
 have HZ2 := Lib.hid (hk.blk HZ1.out hg)
 have HK2 := Lib.hid (HK1.out.trans hk)
 have HR2 := Lib.hid hr
 have hs2 : w.heap.size + 1 ≤ w2.heap.size := Nat.le_trans hs1 hk.size
 clear hk hr
 go_wp2_with fail
 refine (takes_yes b (skip s) [91] r o w2 HR2.out T2.out).mono ?_
 rintro e w3 ⟨rfl, hk, hr⟩
 have HZ3 := Lib.hid (hk.blk HZ2.out hg)
 have HK3 := Lib.hid (HK2.out.trans hk)
 have HR3 := Lib.hid hr
 have hs3 : w.heap.size + 1 ≤ w3.heap.size := Nat.le_trans hs2 hk.size
 clear hk hr
 go_wp2_with fail
 refine (HC.out w3 HK3.out HR3.out).mono ?_
 intro e w8 hva
 obtain ⟨d, j, t, o', rfl, hvb⟩ := vbE_of hva Hne.out
 have hk8 := hvb.1
 have hr8 := hvb.2.1
 have hz8 := hk8.blk HZ3.out hg
 have HVB := Lib.hid hvb
 have HD : Hid (∀ v t', res = .ok v t' → ValAt w8 (fun k => w.heap.size + 1 ≤ k) d) := Lib.hid fun v t' he => by
  have h := hvb.2.2.2.2
  rw [he] at h
  exact h.2.2.1.mono fun k hk _ => by omega
 have HK8 := Lib.hid (HK3.out.trans hk8)
 have HR8 := Lib.hid hr8
 have HZ8 := Lib.hid hz8
 unfold zeroV at hz8
 have c0 := hz8.cell 0
 have c1 := hz8.cell 1
 have c2 := hz8.cell 2
 have c3 := hz8.cell 3
 have c4 := hz8.cell 4
 have c5 := hz8.cell 5
 have f0 := hz8.free 0
 have f1 := hz8.free 1
 have f2 := hz8.free 2
 have f3 := hz8.free 3
 have f4 := hz8.free 4
 have f5 := hz8.free 5
 simp only [List.getElem?_toArray, List.getElem?_cons_zero, List.getElem?_cons_succ] at c0 c1 c2 c3 c4 c5
 clear hva hvb hk8 hr8 hz8
 rw [VD.val_eq']
 go_upto_region 7 with (fail)
 have hst := store6_val d HZ8.out
 have hrp : RdAt (put6 w8 w.heap.size 0 (.int .i64 d.sort) (.bool d.on) (.int .i64 d.n) (.string ⟨d.text.toArray⟩) (.slice d.a d.list.length d.c) (.slice d.ka d.keys.length d.kc)) b t o' := (put6_other (by omega)).trans HR8.out
 have hkp : Keep b w (put6 w8 w.heap.size 0 (.int .i64 d.sort) (.bool d.on) (.int .i64 d.n) (.string ⟨d.text.toArray⟩) (.slice d.a d.list.length d.c) (.slice d.ka d.keys.length d.kc)) := HK8.out.put6 (Nat.le_refl _) _ _ _ _ _ _
 have hoth : ∀ j, w.heap.size + 1 ≤ j → (put6 w8 w.heap.size 0 (.int .i64 d.sort) (.bool d.on) (.int .i64 d.n) (.string ⟨d.text.toArray⟩) (.slice d.a d.list.length d.c) (.slice d.ka d.keys.length d.kc)).heap[j]? = w8.heap[j]? := fun j hj => put6_other (by omega)
 obtain ⟨w9, hw9⟩ : ∃ w9, w9 = put6 w8 w.heap.size 0 (.int .i64 d.sort) (.bool d.on) (.int .i64 d.n) (.string ⟨d.text.toArray⟩) (.slice d.a d.list.length d.c) (.slice d.ka d.keys.length d.kc) := ⟨_, rfl⟩
 rw [← hw9] at hst hrp hkp hoth
 have HST := Lib.hid hst
 have HRP := Lib.hid hrp
 have HKP := Lib.hid hkp
 have HO := Lib.hid hoth
 unfold put6 at hw9
 try simp only [Nat.zero_add] at hw9
 rw [← hw9]
 clear hst hrp hkp hoth hw9 c0 c1 c2 c3 c4 c5 f0 f1 f2 f3 f4 f5
 go_wp2_with fail
 refine (skip_any b t o' w9 HRP.out).mono ?_
 rintro e w10 ⟨rfl, hk10, hr10⟩
 have hst10 := hk10.blk HST.out hg
 have HK10 := Lib.hid (HKP.out.trans hk10)
 have HR10 := Lib.hid hr10
 have HA : Hid (ValAt w8 (fun k => w.heap.size + 1 ≤ k) d → ValAt w10 (fun k => w.heap.size + 1 ≤ k) d) := Lib.hid fun ha =>
  (ha.congr (w' := w9) fun k hk _ => HO.out k hk).congr (w' := w10) fun k hk hl => hk10.block hl (by omega)
 have HST10 := Lib.hid hst10
 have c0 := hst10.cell 0
 have c1 := hst10.cell 1
 have c2 := hst10.cell 2
 have c3 := hst10.cell 3
 have c4 := hst10.cell 4
 have c5 := hst10.cell 5
 have f0 := hst10.free 0
 have f1 := hst10.free 1
 have f2 := hst10.free 2
 have f3 := hst10.free 3
 have f4 := hst10.free 4
 have f5 := hst10.free 5
 simp only [List.getElem?_toArray, List.getElem?_cons_zero, List.getElem?_cons_succ] at c0 c1 c2 c3 c4 c5
 clear hk10 hr10 hst10
 go_wp2
 have hfin := store6_val d HST10.out
 have hrf : RdAt (put6 w10 w.heap.size 0 (.int .i64 d.sort) (.bool d.on) (.int .i64 d.n) (.string ⟨d.text.toArray⟩) (.slice d.a d.list.length d.c) (.slice d.ka d.keys.length d.kc)) b (skip t) o' := (put6_other (by omega)).trans HR10.out
 have hkf : Keep b w (put6 w10 w.heap.size 0 (.int .i64 d.sort) (.bool d.on) (.int .i64 d.n) (.string ⟨d.text.toArray⟩) (.slice d.a d.list.length d.c) (.slice d.ka d.keys.length d.kc)) := HK10.out.put6 (Nat.le_refl _) _ _ _ _ _ _
 have haf : ValAt w8 (fun k => w.heap.size + 1 ≤ k) d → ValAt (put6 w10 w.heap.size 0 (.int .i64 d.sort) (.bool d.on) (.int .i64 d.n) (.string ⟨d.text.toArray⟩) (.slice d.a d.list.length d.c) (.slice d.ka d.keys.length d.kc)) (fun k => w.heap.size ≤ k) d := fun ha =>
  ((HA.out ha).congr (w' := (put6 w10 w.heap.size 0 (.int .i64 d.sort) (.bool d.on) (.int .i64 d.n) (.string ⟨d.text.toArray⟩) (.slice d.a d.list.length d.c) (.slice d.ka d.keys.length d.kc))) fun k hk _ => put6_other (by omega)).mono fun k hk _ => by omega
 have hend := vaE_fin HVB.out hkf hrf haf HD.out
 obtain ⟨W, hW⟩ : ∃ W, W = (put6 w10 w.heap.size 0 (.int .i64 d.sort) (.bool d.on) (.int .i64 d.n) (.string ⟨d.text.toArray⟩) (.slice d.a d.list.length d.c) (.slice d.ka d.keys.length d.kc)) := ⟨_, rfl⟩
 rw [← hW] at hfin hend
 unfold put6 at hW
 try simp only [Nat.zero_add] at hW
 rw [← hW]
 have d0 := hfin.cell 0
 have d1 := hfin.cell 1
 have d2 := hfin.cell 2
 have d3 := hfin.cell 3
 have d4 := hfin.cell 4
 have d5 := hfin.cell 5
 simp only [List.getElem?_toArray, List.getElem?_cons_zero, List.getElem?_cons_succ] at d0 d1 d2 d3 d4 d5
 exact bodyPost_ret (v := .tuple #[.agg #[.int .i64 d.sort, .bool d.on, .int .i64 d.n, .string ⟨d.text.toArray⟩, .slice d.a d.list.length d.c, .slice d.ka d.keys.length d.kc], .int .i64 j]) (by simp [results, Tryz.results52, go_sem, d0, d1, d2, d3, d4, d5]) rfl hend

set_option maxHeartbeats 4000000 in
theorem value_plain (b : Nat) (s : Nm) (o : Nat) (w : World) (h : RdAt w b s o) (res : Res) (hne : res ≠ .out) (t1 : takes [123] (skip s) = none) (t2 : takes [91] (skip s) = none) (hc : ∀ w', Keep b w w' → RdAt w' b (skip s) o → Calls Tryz.prog 77 #[.pointer (some ⟨b, 0, none⟩)] w' (VaE w' b o res)) :
  Calls Tryz.prog 52 #[.pointer (some ⟨b, 0, none⟩)] w (VaE w b o (finL res)) := by
 have hbl := Blk.lt h
 have hg : w.heap.size ≠ b := by omega
 have hz0 : Blk (w.alloc (.cells zeroV 36)) w.heap.size zeroV 36 := Blk.new rfl
 have h1 := skip_any b s o (w.alloc (.cells zeroV 36)) (h.ext (below_a1 _ _))
 have H1 := Lib.hid h1
 have HZ0 := Lib.hid hz0
 have Hne := Lib.hid hne
 unfold zeroV at H1
 have HC := Lib.hid hc
 have T1 := Lib.hid t1
 have T2 := Lib.hid t2
 clear hc t1 t2
 clear h1 h hz0 hne
 go_enter Tryz.func52, Tryz.ntmps52
 go_wp2_with fail
 refine H1.out.mono ?_
 rintro e w1 ⟨rfl, hk1, hr1⟩
 have HZ1 := Lib.hid (hk1.blk HZ0.out hg)
 have HK1 := Lib.hid hk1.since
 have HR1 := Lib.hid hr1
 have hs1 : w.heap.size + 1 ≤ w1.heap.size := by have := hk1.size; simpa using this
 clear hk1 hr1 H1 HZ0
 go_wp2_with fail
 refine (takes_no b (skip s) [123] o w1 HR1.out T1.out).mono ?_
 rintro e w2 ⟨rfl, hk, hr⟩
 have HZ2 := Lib.hid (hk.blk HZ1.out hg)
 have HK2 := Lib.hid (HK1.out.trans hk)
 have HR2 := Lib.hid hr
 have hs2 : w.heap.size + 1 ≤ w2.heap.size := Nat.le_trans hs1 hk.size
 clear hk hr
 go_wp2_with fail
 refine (takes_no b (skip s) [91] o w2 HR2.out T2.out).mono ?_
 rintro e w3 ⟨rfl, hk, hr⟩
 have HZ3 := Lib.hid (hk.blk HZ2.out hg)
 have HK3 := Lib.hid (HK2.out.trans hk)
 have HR3 := Lib.hid hr
 have hs3 : w.heap.size + 1 ≤ w3.heap.size := Nat.le_trans hs2 hk.size
 clear hk hr
 go_wp2_with fail
 refine (HC.out w3 HK3.out HR3.out).mono ?_
 intro e w8 hva
 obtain ⟨d, j, t, o', rfl, hvb⟩ := vbE_of hva Hne.out
 have hk8 := hvb.1
 have hr8 := hvb.2.1
 have hz8 := hk8.blk HZ3.out hg
 have HVB := Lib.hid hvb
 have HD : Hid (∀ v t', res = .ok v t' → ValAt w8 (fun k => w.heap.size + 1 ≤ k) d) := Lib.hid fun v t' he => by
  have h := hvb.2.2.2.2
  rw [he] at h
  exact h.2.2.1.mono fun k hk _ => by omega
 have HK8 := Lib.hid (HK3.out.trans hk8)
 have HR8 := Lib.hid hr8
 have HZ8 := Lib.hid hz8
 unfold zeroV at hz8
 have c0 := hz8.cell 0
 have c1 := hz8.cell 1
 have c2 := hz8.cell 2
 have c3 := hz8.cell 3
 have c4 := hz8.cell 4
 have c5 := hz8.cell 5
 have f0 := hz8.free 0
 have f1 := hz8.free 1
 have f2 := hz8.free 2
 have f3 := hz8.free 3
 have f4 := hz8.free 4
 have f5 := hz8.free 5
 simp only [List.getElem?_toArray, List.getElem?_cons_zero, List.getElem?_cons_succ] at c0 c1 c2 c3 c4 c5
 clear hva hvb hk8 hr8 hz8
 rw [VD.val_eq']
 go_upto_region 7 with (fail)
 have hst := store6_val d HZ8.out
 have hrp : RdAt (put6 w8 w.heap.size 0 (.int .i64 d.sort) (.bool d.on) (.int .i64 d.n) (.string ⟨d.text.toArray⟩) (.slice d.a d.list.length d.c) (.slice d.ka d.keys.length d.kc)) b t o' := (put6_other (by omega)).trans HR8.out
 have hkp : Keep b w (put6 w8 w.heap.size 0 (.int .i64 d.sort) (.bool d.on) (.int .i64 d.n) (.string ⟨d.text.toArray⟩) (.slice d.a d.list.length d.c) (.slice d.ka d.keys.length d.kc)) := HK8.out.put6 (Nat.le_refl _) _ _ _ _ _ _
 have hoth : ∀ j, w.heap.size + 1 ≤ j → (put6 w8 w.heap.size 0 (.int .i64 d.sort) (.bool d.on) (.int .i64 d.n) (.string ⟨d.text.toArray⟩) (.slice d.a d.list.length d.c) (.slice d.ka d.keys.length d.kc)).heap[j]? = w8.heap[j]? := fun j hj => put6_other (by omega)
 obtain ⟨w9, hw9⟩ : ∃ w9, w9 = put6 w8 w.heap.size 0 (.int .i64 d.sort) (.bool d.on) (.int .i64 d.n) (.string ⟨d.text.toArray⟩) (.slice d.a d.list.length d.c) (.slice d.ka d.keys.length d.kc) := ⟨_, rfl⟩
 rw [← hw9] at hst hrp hkp hoth
 have HST := Lib.hid hst
 have HRP := Lib.hid hrp
 have HKP := Lib.hid hkp
 have HO := Lib.hid hoth
 unfold put6 at hw9
 try simp only [Nat.zero_add] at hw9
 rw [← hw9]
 clear hst hrp hkp hoth hw9 c0 c1 c2 c3 c4 c5 f0 f1 f2 f3 f4 f5
 go_wp2_with fail
 refine (skip_any b t o' w9 HRP.out).mono ?_
 rintro e w10 ⟨rfl, hk10, hr10⟩
 have hst10 := hk10.blk HST.out hg
 have HK10 := Lib.hid (HKP.out.trans hk10)
 have HR10 := Lib.hid hr10
 have HA : Hid (ValAt w8 (fun k => w.heap.size + 1 ≤ k) d → ValAt w10 (fun k => w.heap.size + 1 ≤ k) d) := Lib.hid fun ha =>
  (ha.congr (w' := w9) fun k hk _ => HO.out k hk).congr (w' := w10) fun k hk hl => hk10.block hl (by omega)
 have HST10 := Lib.hid hst10
 have c0 := hst10.cell 0
 have c1 := hst10.cell 1
 have c2 := hst10.cell 2
 have c3 := hst10.cell 3
 have c4 := hst10.cell 4
 have c5 := hst10.cell 5
 have f0 := hst10.free 0
 have f1 := hst10.free 1
 have f2 := hst10.free 2
 have f3 := hst10.free 3
 have f4 := hst10.free 4
 have f5 := hst10.free 5
 simp only [List.getElem?_toArray, List.getElem?_cons_zero, List.getElem?_cons_succ] at c0 c1 c2 c3 c4 c5
 clear hk10 hr10 hst10
 go_wp2
 have hfin := store6_val d HST10.out
 have hrf : RdAt (put6 w10 w.heap.size 0 (.int .i64 d.sort) (.bool d.on) (.int .i64 d.n) (.string ⟨d.text.toArray⟩) (.slice d.a d.list.length d.c) (.slice d.ka d.keys.length d.kc)) b (skip t) o' := (put6_other (by omega)).trans HR10.out
 have hkf : Keep b w (put6 w10 w.heap.size 0 (.int .i64 d.sort) (.bool d.on) (.int .i64 d.n) (.string ⟨d.text.toArray⟩) (.slice d.a d.list.length d.c) (.slice d.ka d.keys.length d.kc)) := HK10.out.put6 (Nat.le_refl _) _ _ _ _ _ _
 have haf : ValAt w8 (fun k => w.heap.size + 1 ≤ k) d → ValAt (put6 w10 w.heap.size 0 (.int .i64 d.sort) (.bool d.on) (.int .i64 d.n) (.string ⟨d.text.toArray⟩) (.slice d.a d.list.length d.c) (.slice d.ka d.keys.length d.kc)) (fun k => w.heap.size ≤ k) d := fun ha =>
  ((HA.out ha).congr (w' := (put6 w10 w.heap.size 0 (.int .i64 d.sort) (.bool d.on) (.int .i64 d.n) (.string ⟨d.text.toArray⟩) (.slice d.a d.list.length d.c) (.slice d.ka d.keys.length d.kc))) fun k hk _ => put6_other (by omega)).mono fun k hk _ => by omega
 have hend := vaE_fin HVB.out hkf hrf haf HD.out
 obtain ⟨W, hW⟩ : ∃ W, W = (put6 w10 w.heap.size 0 (.int .i64 d.sort) (.bool d.on) (.int .i64 d.n) (.string ⟨d.text.toArray⟩) (.slice d.a d.list.length d.c) (.slice d.ka d.keys.length d.kc)) := ⟨_, rfl⟩
 rw [← hW] at hfin hend
 unfold put6 at hW
 try simp only [Nat.zero_add] at hW
 rw [← hW]
 have d0 := hfin.cell 0
 have d1 := hfin.cell 1
 have d2 := hfin.cell 2
 have d3 := hfin.cell 3
 have d4 := hfin.cell 4
 have d5 := hfin.cell 5
 simp only [List.getElem?_toArray, List.getElem?_cons_zero, List.getElem?_cons_succ] at d0 d1 d2 d3 d4 d5
 exact bodyPost_ret (v := .tuple #[.agg #[.int .i64 d.sort, .bool d.on, .int .i64 d.n, .string ⟨d.text.toArray⟩, .slice d.a d.list.length d.c, .slice d.ka d.keys.length d.kc], .int .i64 j]) (by simp [results, Tryz.results52, go_sem, d0, d1, d2, d3, d4, d5]) rfl hend

theorem value_any : ∀ f : Nat, ∀ (b : Nat) (s : Nm) (o : Nat) (w : World), Glob w → 8 ≤ b → RdAt w b s o → s.length ≤ 1048576 → o ≤ 20 → valL f o s ≠ .out → Calls Tryz.prog 52 #[.pointer (some ⟨b, 0, none⟩)] w (VaE w b o (valL f o s)) := by
 intro f
 induction f using Nat.strongRecOn with
 | ind f IH =>
 intro b s o w hG hb8 h hs ho hne
 cases f with
 | zero => exact absurd (by rw [valL]) hne
 | succ f =>
  rw [valL_fin] at hne ⊢
  have hne' : headL f o (skip s) ≠ .out := fun he => hne (by rw [he]; rfl)
  have hsk := skip_len s
  cases t1 : takes [123] (skip s) with
  | some r =>
   have e : headL f o (skip s) = partsL f o 5 125 r := by unfold headL; rw [t1]
   rw [e] at hne' ⊢
   refine value_rec b s o w h _ hne' r t1 fun w' hk hr => ?_
   have hl := takes_len t1
   cases f with
   | zero => exact absurd (by rw [partsL]) hne'
   | succ f => exact parts_any f (Lib.hid fun g hg => IH g (by omega)) b r o 5 125 w' (hk.glob hG hb8) hb8 hr (by simp only [List.length_singleton] at hl; omega) ho hne'
  | none =>
   cases t2 : takes [91] (skip s) with
   | some r =>
    have e : headL f o (skip s) = partsL f o 4 93 r := by unfold headL; rw [t1]; simp only; rw [t2]
    rw [e] at hne' ⊢
    refine value_list b s o w h _ hne' r t1 t2 fun w' hk hr => ?_
    have hl := takes_len t2
    cases f with
    | zero => exact absurd (by rw [partsL]) hne'
    | succ f => exact parts_any f (Lib.hid fun g hg => IH g (by omega)) b r o 4 93 w' (hk.glob hG hb8) hb8 hr (by simp only [List.length_singleton] at hl; omega) ho hne'
   | none =>
    have e : headL f o (skip s) = plainL (skip s) := by unfold headL; rw [t1]; simp only; rw [t2]
    rw [e] at hne' ⊢
    exact value_plain b s o w h _ hne' t1 t2 fun w' hk hr => plain_any b (skip s) o w' (hk.glob hG hb8) hb8 hr (by omega)
end Go.Proofs.YthnbeebilomchaaGreatDoor

namespace Go.Proofs.YthnbeebilomchaaGreatDoor
open Go Go.RowKit

def ReadE (w : World) (res : Res) (e : Ending) (w' : World) : Prop :=
  Below w.heap.size w w' ∧ match res with
  | .out => False
  | .err k => (k = 11 ∨ k = 21 ∨ k = 22) ∧ e = .returned (.tuple #[(VD.mk 0 false 0 [] none 0 [] none 0 []).val, .int .i64 k])
  | .ok v _ => ∃ d, e = .returned (.tuple #[d.val, .int .i64 0]) ∧ d.v = v ∧ ValAt w' (fun k => w.heap.size ≤ k) d

theorem utf_any (s : Nm) (w : World) (hG : Glob w) (hs : s.length ≤ 9223372036854775807) :
    Calls Tryz.prog 51 #[.string ⟨s.toArray⟩] w fun e w' => e = .returned (.bool (Lib.validD s)) ∧ Below w.heap.size w w' := by
  have h1 := Any.utf8_ValidString Tryz.laysValid (⟨s.toArray⟩ : ByteArray) w (by rw [size_nm]; exact hs) hG.utf
  have h1 : Calls Tryz.prog 73 #[.string ⟨s.toArray⟩] w fun e w' => e = .returned (.bool (Lib.validD s)) ∧ Below w.heap.size w w' := h1
  go_enter Tryz.func51, Tryz.ntmps51
  go_wp2_with fail
  refine h1.mono ?_
  rintro e w1 ⟨rfl, hb⟩
  go_wp2
  exact bodyPost_ret (by simp [results, Tryz.results51, go_sem]) rfl ⟨rfl, hb⟩

theorem Blk.six {w : World} {g : Nat} {d : VD} (h : Blk w g #[.int .i64 d.sort, .bool d.on, .int .i64 d.n, .string ⟨d.text.toArray⟩, .slice d.a d.list.length d.c, .slice d.ka d.keys.length d.kc] 36) : Six w g d := by
  have d0 := h.cell 0
  have d1 := h.cell 1
  have d2 := h.cell 2
  have d3 := h.cell 3
  have d4 := h.cell 4
  have d5 := h.cell 5
  simp only [List.getElem?_toArray, List.getElem?_cons_zero, List.getElem?_cons_succ] at d0 d1 d2 d3 d4 d5
  exact ⟨d0, d1, d2, d3, d4, d5⟩
theorem read_end {W : World} {tm : Array Value} {R : Ending → World → Prop} {g : Nat} {u0 u1 u2 u3 u4 u5 : Value} {k : Int} (h2 : tm.getD 2 undef = .pointer (some ⟨g, 0, none⟩)) (h3 : tm.getD 3 undef = .int .i64 k) (hB : Blk W g #[u0, u1, u2, u3, u4, u5] 36)
    (hR : R (.returned (.tuple #[.agg #[u0, u1, u2, u3, u4, u5], .int .i64 k])) W) : bodyPost Tryz.prog Tryz.f27 R .ret { tmps := tm, defers := [] } W := by
  have d0 := hB.cell 0
  have d1 := hB.cell 1
  have d2 := hB.cell 2
  have d3 := hB.cell 3
  have d4 := hB.cell 4
  have d5 := hB.cell 5
  simp only [List.getElem?_toArray, List.getElem?_cons_zero, List.getElem?_cons_succ] at d0 d1 d2 d3 d4 d5
  rw [Array.getD_eq_getD_getElem?] at h2 h3
  refine bodyPost_ret (v := .tuple #[.agg #[u0, u1, u2, u3, u4, u5], .int .i64 k]) ?_ rfl hR
  simp [results, Tryz.results27, go_sem, h2, h3, d0, d1, d2, d3, d4, d5]
set_option maxHeartbeats 4000000 in
theorem read_bad (s : Nm) (w : World) (hG : Glob w) (hs : s.length ≤ 1048576) (hv : Lib.validD s = false) : Calls Tryz.prog 27 #[.string ⟨s.toArray⟩] w (ReadE w (.err 11)) := by
 have hG0 := hG.ext (below_a1 w (.cells zeroV 36))
 have h1 := utf_any s (w.alloc (.cells zeroV 36)) hG0 (by omega)
 have hz0 : Blk (w.alloc (.cells zeroV 36)) w.heap.size zeroV 36 := Blk.new rfl
 have hb0 := below_a1 w (.cells zeroV 36)
 rw [hv] at h1
 have H1 := Lib.hid h1
 have HZ0 := Lib.hid hz0
 unfold zeroV at H1
 clear h1 hG hG0 hv hz0
 go_enter Tryz.func27, Tryz.ntmps27
 go_wp2_with fail
 refine H1.out.mono ?_
 rintro e w1 ⟨rfl, hb1⟩
 have hz1 := HZ0.out.ext hb1
 have hb := hb0.trans (hb1.mono (by simp))
 have c0 := hz1.cell 0
 have c1 := hz1.cell 1
 have c2 := hz1.cell 2
 have c3 := hz1.cell 3
 have c4 := hz1.cell 4
 have c5 := hz1.cell 5
 have f0 := hz1.free 0
 have f1 := hz1.free 1
 have f2 := hz1.free 2
 have f3 := hz1.free 3
 have f4 := hz1.free 4
 have f5 := hz1.free 5
 unfold zeroV at c0 c1 c2 c3 c4 c5
 simp only [List.getElem?_toArray, List.getElem?_cons_zero, List.getElem?_cons_succ] at c0 c1 c2 c3 c4 c5
 have HZ1 := Lib.hid hz1
 have HB := Lib.hid hb
 clear hz1 hb hb1
 go_wp2
 refine read_end (g := w.heap.size) rfl rfl (store6 HZ1.out) ?_
 exact ⟨put6_below (o := 0) HB.out (Nat.le_refl _), .inl rfl, rfl⟩

set_option maxHeartbeats 4000000 in
theorem read_no (s : Nm) (w : World) (hG : Glob w) (hs : s.length ≤ 1048576) (hv : Lib.validD s = true) (k : Int) (he : valL (steps s) 0 s = .err k) (hk : k = 21 ∨ k = 22) : Calls Tryz.prog 27 #[.string ⟨s.toArray⟩] w (ReadE w (.err k)) := by
 have hb0 := below_a1 w (.cells zeroV 36)
 have hG0 := hG.ext hb0
 have h1 := utf_any s (w.alloc (.cells zeroV 36)) hG0 (by omega)
 have hz0 : Blk (w.alloc (.cells zeroV 36)) w.heap.size zeroV 36 := Blk.new rfl
 have h8 := hG.size
 rw [hv] at h1
 have H1 := Lib.hid h1
 have HZ0 := Lib.hid hz0
 have HG0 := Lib.hid hG0
 have HE := Lib.hid he
 unfold zeroV at H1
 clear h1 hG hG0 hv hz0 he
 go_enter Tryz.func27, Tryz.ntmps27
 go_wp2_with fail
 refine H1.out.mono ?_
 rintro e w1 ⟨rfl, hb1⟩
 have hz1 := HZ0.out.ext hb1
 have hb := hb0.trans (hb1.mono (by simp))
 have HZ1 := Lib.hid hz1
 have HB := Lib.hid hb
 have HG1 := Lib.hid (HG0.out.ext hb1)
 have hsz : w.heap.size + 1 ≤ w1.heap.size := by have := hb1.size; simpa using this
 clear hz1 hb hb1
 go_wp2_with fail
 have hrd : RdAt (w1.alloc (.cells #[.string ⟨s.toArray⟩, .int .i64 0] 110)) w1.heap.size s ((0 : Nat) : Int) := Blk.new rfl
 refine (value_any (steps s) w1.heap.size s 0 _ (HG1.out.ext (below_a1 _ _)) (by omega) hrd hs (by omega) (by rw [HE.out]; simp)).mono ?_
 intro e w8 hva
 rw [HE.out] at hva
 obtain ⟨d, t, o', rfl, hk8, -, -, -⟩ := hva
 have hk0 : k ≠ 0 := by omega
 have hz8 := hk8.blk (HZ1.out.alloc _) (by omega)
 have hb8 := hk8.below (HB.out.alloc (by omega) _) (by omega) (by simp; omega)
 have hs8 : w.heap.size + 1 ≤ w8.heap.size := by have := hk8.size; simp at this; omega
 have HB8 := Lib.hid hb8
 have HZ8 := Lib.hid hz8
 clear hk8 hb8 hz8
 rw [VD.val_eq']
 go_upto_region 5 with (fail)
 obtain ⟨W9, hW9⟩ : ∃ W9, W9 = w8.alloc (.cells #[.int .i64 d.sort, .bool d.on, .int .i64 d.n, .string ⟨d.text.toArray⟩, .slice d.a d.list.length d.c, .slice d.ka d.keys.length d.kc] 36) := ⟨_, rfl⟩
 rw [← hW9]
 have hz9 : Blk W9 w.heap.size zeroV 36 := by rw [hW9]; exact HZ8.out.alloc _
 have hn9 : Blk W9 w8.heap.size #[.int .i64 d.sort, .bool d.on, .int .i64 d.n, .string ⟨d.text.toArray⟩, .slice d.a d.list.length d.c, .slice d.ka d.keys.length d.kc] 36 := by rw [hW9]; exact Blk.new rfl
 have hb9 : Below w.heap.size w W9 := by rw [hW9]; exact HB8.out.alloc (by omega) _
 have hW9e := Lib.hid hW9
 have HZ9 := Lib.hid hz9
 have HB9 := Lib.hid hb9
 clear hW9 hb9
 have c0 := hz9.cell 0
 have c1 := hz9.cell 1
 have c2 := hz9.cell 2
 have c3 := hz9.cell 3
 have c4 := hz9.cell 4
 have c5 := hz9.cell 5
 have f0 := hz9.free 0
 have f1 := hz9.free 1
 have f2 := hz9.free 2
 have f3 := hz9.free 3
 have f4 := hz9.free 4
 have f5 := hz9.free 5
 unfold zeroV at c0 c1 c2 c3 c4 c5
 simp only [List.getElem?_toArray, List.getElem?_cons_zero, List.getElem?_cons_succ] at c0 c1 c2 c3 c4 c5
 clear hz9
 go_wp2
 refine read_end (g := w.heap.size) rfl rfl (store6 HZ9.out) ?_
 exact ⟨put6_below (o := 0) HB9.out (Nat.le_refl _), .inr hk, rfl⟩

set_option maxHeartbeats 4000000 in
theorem read_left (s : Nm) (w : World) (hG : Glob w) (hs : s.length ≤ 1048576) (hv : Lib.validD s = true) (v : V) (c : UInt8) (r : Nm) (he : valL (steps s) 0 s = .ok v (c :: r)) : Calls Tryz.prog 27 #[.string ⟨s.toArray⟩] w (ReadE w (.err 21)) := by
 have hb0 := below_a1 w (.cells zeroV 36)
 have hG0 := hG.ext hb0
 have h1 := utf_any s (w.alloc (.cells zeroV 36)) hG0 (by omega)
 have hz0 : Blk (w.alloc (.cells zeroV 36)) w.heap.size zeroV 36 := Blk.new rfl
 have h8 := hG.size
 rw [hv] at h1
 have H1 := Lib.hid h1
 have HZ0 := Lib.hid hz0
 have HG0 := Lib.hid hG0
 have HE := Lib.hid he
 unfold zeroV at H1
 clear h1 hG hG0 hv hz0 he
 go_enter Tryz.func27, Tryz.ntmps27
 go_wp2_with fail
 refine H1.out.mono ?_
 rintro e w1 ⟨rfl, hb1⟩
 have hz1 := HZ0.out.ext hb1
 have hb := hb0.trans (hb1.mono (by simp))
 have HZ1 := Lib.hid hz1
 have HB := Lib.hid hb
 have HG1 := Lib.hid (HG0.out.ext hb1)
 have hsz : w.heap.size + 1 ≤ w1.heap.size := by have := hb1.size; simpa using this
 clear hz1 hb hb1
 go_wp2_with fail
 have hrd : RdAt (w1.alloc (.cells #[.string ⟨s.toArray⟩, .int .i64 0] 110)) w1.heap.size s ((0 : Nat) : Int) := Blk.new rfl
 refine (value_any (steps s) w1.heap.size s 0 _ (HG1.out.ext (below_a1 _ _)) (by omega) hrd hs (by omega) (by rw [HE.out]; simp)).mono ?_
 intro e w8 hva
 rw [HE.out] at hva
 obtain ⟨d, rfl, hdv, hva8, hk8, hr8⟩ := hva
 have hz8 := hk8.blk (HZ1.out.alloc _) (by omega)
 have hb8 := hk8.below (HB.out.alloc (by omega) _) (by omega) (by simp; omega)
 have hs8 : w.heap.size + 1 ≤ w8.heap.size := by have := hk8.size; simp at this; omega
 have HB8 := Lib.hid hb8
 have HZ8 := Lib.hid hz8
 have HV8 := Lib.hid hva8
 have HR8 := Lib.hid hr8
 have HDV := Lib.hid hdv
 clear hk8 hb8 hz8 hva8 hr8 hdv
 rw [VD.val_eq']
 go_upto_region 5 with (fail)
 obtain ⟨W9, hW9⟩ : ∃ W9, W9 = w8.alloc (.cells #[.int .i64 d.sort, .bool d.on, .int .i64 d.n, .string ⟨d.text.toArray⟩, .slice d.a d.list.length d.c, .slice d.ka d.keys.length d.kc] 36) := ⟨_, rfl⟩
 rw [← hW9]
 have hz9 : Blk W9 w.heap.size zeroV 36 := by rw [hW9]; exact HZ8.out.alloc _
 have hn9 : Blk W9 w8.heap.size #[.int .i64 d.sort, .bool d.on, .int .i64 d.n, .string ⟨d.text.toArray⟩, .slice d.a d.list.length d.c, .slice d.ka d.keys.length d.kc] 36 := by rw [hW9]; exact Blk.new rfl
 have hb9 : Below w.heap.size w W9 := by rw [hW9]; exact HB8.out.alloc (by omega) _
 have hW9e := Lib.hid hW9
 have HZ9 := Lib.hid hz9
 have HB9 := Lib.hid hb9
 clear hW9 hb9
 have hr9 : RdAt W9 w1.heap.size (c :: r) (0 : Nat) := by rw [hW9e.out]; exact HR8.out.ext (below_a1 _ _)
 have r0 := hr9.c0
 skip
 have c0 := hz9.cell 0
 have c1 := hz9.cell 1
 have c2 := hz9.cell 2
 have c3 := hz9.cell 3
 have c4 := hz9.cell 4
 have c5 := hz9.cell 5
 have f0 := hz9.free 0
 have f1 := hz9.free 1
 have f2 := hz9.free 2
 have f3 := hz9.free 3
 have f4 := hz9.free 4
 have f5 := hz9.free 5
 unfold zeroV at c0 c1 c2 c3 c4 c5
 simp only [List.getElem?_toArray, List.getElem?_cons_zero, List.getElem?_cons_succ] at c0 c1 c2 c3 c4 c5
 clear hz9 hr9
 go_wp2
 refine read_end (g := w.heap.size) rfl rfl (store6 HZ9.out) ?_
 exact ⟨put6_below (o := 0) HB9.out (Nat.le_refl _), .inr (.inl rfl), rfl⟩

set_option maxHeartbeats 4000000 in
theorem read_ok (s : Nm) (w : World) (hG : Glob w) (hs : s.length ≤ 1048576) (hv : Lib.validD s = true) (v : V) (he : valL (steps s) 0 s = .ok v []) : Calls Tryz.prog 27 #[.string ⟨s.toArray⟩] w (ReadE w (.ok v [])) := by
 have hb0 := below_a1 w (.cells zeroV 36)
 have hG0 := hG.ext hb0
 have h1 := utf_any s (w.alloc (.cells zeroV 36)) hG0 (by omega)
 have hz0 : Blk (w.alloc (.cells zeroV 36)) w.heap.size zeroV 36 := Blk.new rfl
 have h8 := hG.size
 rw [hv] at h1
 have H1 := Lib.hid h1
 have HZ0 := Lib.hid hz0
 have HG0 := Lib.hid hG0
 have HE := Lib.hid he
 unfold zeroV at H1
 clear h1 hG hG0 hv hz0 he
 go_enter Tryz.func27, Tryz.ntmps27
 go_wp2_with fail
 refine H1.out.mono ?_
 rintro e w1 ⟨rfl, hb1⟩
 have hz1 := HZ0.out.ext hb1
 have hb := hb0.trans (hb1.mono (by simp))
 have HZ1 := Lib.hid hz1
 have HB := Lib.hid hb
 have HG1 := Lib.hid (HG0.out.ext hb1)
 have hsz : w.heap.size + 1 ≤ w1.heap.size := by have := hb1.size; simpa using this
 clear hz1 hb hb1
 go_wp2_with fail
 have hrd : RdAt (w1.alloc (.cells #[.string ⟨s.toArray⟩, .int .i64 0] 110)) w1.heap.size s ((0 : Nat) : Int) := Blk.new rfl
 refine (value_any (steps s) w1.heap.size s 0 _ (HG1.out.ext (below_a1 _ _)) (by omega) hrd hs (by omega) (by rw [HE.out]; simp)).mono ?_
 intro e w8 hva
 rw [HE.out] at hva
 obtain ⟨d, rfl, hdv, hva8, hk8, hr8⟩ := hva
 have hz8 := hk8.blk (HZ1.out.alloc _) (by omega)
 have hb8 := hk8.below (HB.out.alloc (by omega) _) (by omega) (by simp; omega)
 have hs8 : w.heap.size + 1 ≤ w8.heap.size := by have := hk8.size; simp at this; omega
 have HB8 := Lib.hid hb8
 have HZ8 := Lib.hid hz8
 have HV8 := Lib.hid hva8
 have HR8 := Lib.hid hr8
 have HDV := Lib.hid hdv
 clear hk8 hb8 hz8 hva8 hr8 hdv
 rw [VD.val_eq']
 go_upto_region 5 with (fail)
 obtain ⟨W9, hW9⟩ : ∃ W9, W9 = w8.alloc (.cells #[.int .i64 d.sort, .bool d.on, .int .i64 d.n, .string ⟨d.text.toArray⟩, .slice d.a d.list.length d.c, .slice d.ka d.keys.length d.kc] 36) := ⟨_, rfl⟩
 rw [← hW9]
 have hz9 : Blk W9 w.heap.size zeroV 36 := by rw [hW9]; exact HZ8.out.alloc _
 have hn9 : Blk W9 w8.heap.size #[.int .i64 d.sort, .bool d.on, .int .i64 d.n, .string ⟨d.text.toArray⟩, .slice d.a d.list.length d.c, .slice d.ka d.keys.length d.kc] 36 := by rw [hW9]; exact Blk.new rfl
 have hb9 : Below w.heap.size w W9 := by rw [hW9]; exact HB8.out.alloc (by omega) _
 have hW9e := Lib.hid hW9
 have HZ9 := Lib.hid hz9
 have HB9 := Lib.hid hb9
 clear hW9 hb9
 have hr9 : RdAt W9 w1.heap.size [] (0 : Nat) := by rw [hW9e.out]; exact HR8.out.ext (below_a1 _ _)
 have r0 := hr9.c0
 skip
 have c0 := hz9.cell 0
 have c1 := hz9.cell 1
 have c2 := hz9.cell 2
 have c3 := hz9.cell 3
 have c4 := hz9.cell 4
 have c5 := hz9.cell 5
 have f0 := hz9.free 0
 have f1 := hz9.free 1
 have f2 := hz9.free 2
 have f3 := hz9.free 3
 have f4 := hz9.free 4
 have f5 := hz9.free 5
 unfold zeroV at c0 c1 c2 c3 c4 c5
 simp only [List.getElem?_toArray, List.getElem?_cons_zero, List.getElem?_cons_succ] at c0 c1 c2 c3 c4 c5
 obtain ⟨e0, e1, e2, e3, e4, e5⟩ := (Blk.six hn9)
 clear hz9 hr9 hn9
 go_wp2
 refine read_end (g := w.heap.size) rfl rfl (store6 HZ9.out) ?_
 rw [← VD.val_eq']
 refine ⟨put6_below (o := 0) HB9.out (Nat.le_refl _), d, rfl, HDV.out, ?_⟩
 have h9 : ValAt W9 (fun k => w.heap.size + 1 ≤ k) d := by
  rw [hW9e.out]
  exact (HV8.out.mono fun k hk _ => by simp at hk; omega).ext (below_a1 _ _)
 exact (h9.congr (w' := put6 W9 w.heap.size 0 (.int .i64 d.sort) (.bool d.on) (.int .i64 d.n) (.string ⟨d.text.toArray⟩) (.slice d.a d.list.length d.c) (.slice d.ka d.keys.length d.kc)) fun k hk _ => put6_other (by omega)).mono fun k hk _ => by omega

theorem read_any (s : Nm) (w : World) (hG : Glob w) (hs : s.length ≤ 1048576) : Calls Tryz.prog 27 #[.string ⟨s.toArray⟩] w (ReadE w (readL s)) := by
  cases hv : Lib.validD s with
  | false =>
    have hr : readL s = .err 11 := by unfold readL; rw [hv]; rfl
    rw [hr]; exact read_bad s w hG hs hv
  | true =>
    have hr : readL s = match valL (steps s) 0 s with | .ok v r => if r = [] then .ok v [] else .err 21 | e => e := by unfold readL; rw [hv]; rfl
    rw [hr]
    have hne := valL_steps 0 s
    have herr := fun k => (read_err (steps s)).1 0 s k
    cases he : valL (steps s) 0 s with
    | out => exact absurd he hne
    | err k => exact read_no s w hG hs hv k he (herr k he)
    | ok v r =>
      cases r with
      | nil => exact read_ok s w hG hs hv v he
      | cons c r => exact read_left s w hG hs hv v c r he
end Go.Proofs.YthnbeebilomchaaGreatDoor

namespace Go.Proofs.YthnbeebilomchaaGreatDoor
open Go Go.RowKit

def IsB (p : Prop) (v : Value) (_ : World) : Prop := ∃ b, v = .bool b ∧ (b = true ↔ p)
theorem isB_true {p : Prop} {w : World} (h : p) : IsB p (.bool true) w := ⟨true, rfl, by simp [h]⟩
theorem isB_false {p : Prop} {w : World} (h : ¬ p) : IsB p (.bool false) w := ⟨false, rfl, by simp [h]⟩
set_option maxHeartbeats 400000 in
theorem strings_any (a b : Option Addr) (ca cb : Nat) (la lb : List (List UInt8)) (w : World) (ha : Row w 1 a la.length (la.map strV)) (hb : Row w 1 b lb.length (lb.map strV)) (hl : la.length ≤ 1099511627776) :
  Calls Tryz.prog 36 #[.slice a la.length ca, .slice b lb.length cb] w (Ret w (IsB (la = lb))) := by
 have HA := Lib.hid ha
 have HB := Lib.hid hb
 clear ha hb
 go_enter Tryz.func36, Tryz.ntmps36
 by_cases hn : la.length = lb.length
 ·
  have hn2 : ((la.length : Int) != lb.length) = false := by simp [hn]
  go_wp2
  go_loopw [5] (fun i wq => ∃ k : Nat, k ≤ la.length ∧ i = .int .i64 k ∧ Hid (Below w.heap.size w wq ∧ ∀ j, j < k → la[j]? = lb[j]?)) (fun i _ => la.length - (intOf i).toNat)
  case atStart => exact ⟨0, Nat.zero_le _, rfl, Below.refl _ _, fun j h => by omega⟩
  case round =>
   obtain ⟨k, hk, rfl, hq⟩ := hrel
   by_cases hlt : k < la.length
   ·
    obtain ⟨x, hx⟩ := get_some hlt
    obtain ⟨y, hy⟩ := get_some (l := lb) (i := k) (by omega)
    obtain ⟨ab, ao, rfl, v1⟩ := (HA.out.ext hq.out.1).elem1 hx
    obtain ⟨bb, bo, rfl, v2⟩ := (HB.out.ext hq.out.1).elem1 hy
    have Hx := Lib.hid hx
    have Hy := Lib.hid hy
    have hkl : (k : Int) < la.length := by omega
    have hkl2 : (k : Int) < lb.length := by omega
    have u1 : wr.cell? ⟨ab, ao + k, none⟩ = some (.string ⟨x.toArray⟩) := v1
    have u2 : wr.cell? ⟨bb, bo + k, none⟩ = some (.string ⟨y.toArray⟩) := v2
    clear hx hy v1 v2
    by_cases hxy : x = y
    ·
     have hne : (x == y) = true := by simpa using hxy
     have Hxy := Lib.hid hxy
     clear hxy
     go_wp2_with fail
     go_quiet (fail)
     go_wp2
     go_roundw
     case rel =>
      refine ⟨k + 1, by omega, by go_num, below_drew hq.out.1 _, fun j hj => ?_⟩
      rcases Nat.lt_or_ge j k with h | h
      ·
       exact hq.out.2 j h
      ·
       obtain rfl : j = k := by omega
       rw [Hx.out, Hy.out, Hxy.out]
     case measure => simp [intOf]; omega
    ·
     have hne : (x == y) = false := by simpa using hxy
     have Hxy := Lib.hid hxy
     clear hxy
     go_wp2_with fail
     go_quiet (fail)
     go_wp2
     go_ret
     exact ⟨_, rfl, below_drew hq.out.1 _, isB_false fun h => Hxy.out (by have := Hx.out; rw [h, Hy.out] at this; simpa using this.symm)⟩
   ·
    obtain rfl : k = la.length := by omega
    go_wp2
    go_ret
    exact ⟨_, rfl, hq.out.1, isB_true (List.ext_getElem? fun i => by rcases Nat.lt_or_ge i la.length with h | h; exact hq.out.2 i h; rw [List.getElem?_eq_none h, List.getElem?_eq_none (by omega)])⟩
 ·
  have hn2 : ((la.length : Int) != lb.length) = true := by simp; omega
  go_wp2
  go_ret
  exact ⟨_, rfl, Below.refl _ _, isB_false fun h => hn (by rw [h])⟩

end Go.Proofs.YthnbeebilomchaaGreatDoor

namespace Go.Proofs.YthnbeebilomchaaGreatDoor
open Go Go.RowKit Go.Sort Go.MapKept Go.ChangeMaps Go.WideShapes
open Go.WideElems (Fit rd rg pl rd_val rd_mk rg_of)
open Go.Maps (Keyed)

section
variable {α : Type} [DecidableEq α]
def upd {β : Type} (f : α → β) (a : α) (v : β) : α → β := fun x => if x = a then v else f x
theorem upd_same {β : Type} (f : α → β) (a : α) (v : β) : upd f a v a = v := by simp [upd]
theorem upd_other {β : Type} (f : α → β) {a x : α} (v : β) (h : x ≠ a) : upd f a v x = f x := by simp [upd, h]
end
noncomputable def R0 : Value → Option (DataW Unit × List MemPlace) := fun _ => some (.nil, [])
noncomputable def kOf (P : Program) (k : TypeId) (e : MapEntry) : Nm := strOf (rg P k R0 e).1

section
variable {P : Program} {k : TypeId}
theorem strK (hk : P.underlying k = some .string) : Keyed P k := Maps.string_keyed hk
theorem key_str (hk : P.underlying k = some .string) {x : Nm} (hx : x.length ≤ maxLen) : keyOf P k (strV x) = some (.string x) := by
  have h := Go.WideMaps.keyOf_string_mk hk (s := ⟨x.toArray⟩) (by simpa [ByteArray.size] using hx)
  simpa [strV] using h
theorem key_inv (hk : P.underlying k = some .string) {v : Value} {l : Lit} (h : keyOf P k v = some l) : ∃ x : Nm, v = strV x ∧ l = .string x ∧ x.length ≤ maxLen := by
  obtain ⟨x, h1, h2, h3⟩ := Maps.keyOf_str hk h
  exact ⟨x, by simpa [strV] using h1, h2, h3⟩

def SMap (P : Program) (k : TypeId) (w : World) (b : Nat) (ks : List Nm) (f : Nm → Value) (z : Value) : Prop :=
  ∃ es clock, w.heap[b]? = some (.map es clock) ∧ Fit P k R0 es clock ∧ (es.toList.map (kOf P k)).Perm ks ∧ (∀ e ∈ es.toList, e.key = strV ((kOf P k) e) ∧ e.val = f ((kOf P k) e)) ∧ ks.Nodup ∧ (∀ x ∈ ks, x.length ≤ maxLen) ∧ ∀ x, x ∉ ks → f x = z

theorem SMap.made (w : World) (z : Value) : SMap P k (w.alloc (.map #[] 0)) w.heap.size [] (fun _ => z) z :=
  ⟨#[], 0, (MapKept.heap_alloc w _).1, ⟨by simp, stamped_empty 0, by simp⟩, by simp, by simp, by simp, by simp, fun _ _ => rfl⟩
theorem SMap.lt {w : World} {b : Nat} {ks : List Nm} {f : Nm → Value} {z : Value} (h : SMap P k w b ks f z) : b < w.heap.size := by
  obtain ⟨es, clock, hb, _⟩ := h
  exact (Array.getElem?_eq_some_iff.1 hb).1
theorem SMap.congr {w w' : World} {b : Nat} {ks : List Nm} {f : Nm → Value} {z : Value} (h : SMap P k w b ks f z) (hb : w'.heap[b]? = w.heap[b]?) : SMap P k w' b ks f z := by
  obtain ⟨es, clock, h1, h2⟩ := h
  exact ⟨es, clock, hb.trans h1, h2⟩
theorem SMap.below {w w' : World} {B b : Nat} {ks : List Nm} {f : Nm → Value} {z : Value} (h : SMap P k w b ks f z) (hb : Below B w w') (hB : b < B) : SMap P k w' b ks f z := h.congr (hb.block b hB)
theorem SMap.ext {w w' : World} {b : Nat} {ks : List Nm} {f : Nm → Value} {z : Value} (h : SMap P k w b ks f z) (hb : Below w.heap.size w w') : SMap P k w' b ks f z := h.below hb h.lt
theorem SMap.grown {w w' : World} {b : Nat} {ks : List Nm} {f : Nm → Value} {z : Value} {row : Option Nat} (h : SMap P k w b ks f z) (hg : w.grownBy w' row) (hne : some b ≠ row) : SMap P k w' b ks f z := h.congr (hg.block b h.lt hne)
theorem SMap.alloc {w : World} {b : Nat} {ks : List Nm} {f : Nm → Value} {z : Value} (h : SMap P k w b ks f z) (o : Obj) : SMap P k (w.alloc o) b ks f z := h.congr (Below.heap_alloc w o b h.lt)
theorem SMap.drewN {w : World} {b : Nat} {ks : List Nm} {f : Nm → Value} {z : Value} (h : SMap P k w b ks f z) (n : Nat) : SMap P k (w.drewN n) b ks f z := h
theorem SMap.set {w : World} {b : Nat} {ks : List Nm} {f : Nm → Value} {z : Value} (h : SMap P k w b ks f z) {p : Addr} (hp : b ≠ p.block) (u : Value) : SMap P k (w.setCell p u) b ks f z := h.congr (Below.heap_setCell w p u b hp)

theorem kOf_fit (hk : P.underlying k = some .string) {es : Array MapEntry} {clock : Nat} (F : Fit P k R0 es clock) {e : MapEntry} (he : e ∈ es.toList) : rg P k R0 e = (.string ((kOf P k) e), .nil) ∧ e.key = strV ((kOf P k) e) ∧ ((kOf P k) e).length ≤ maxLen := by
  obtain ⟨y, hy⟩ := F.reads e he
  have hq := Go.WideElems.rd_key hy
  obtain ⟨x, h1, h2, h3⟩ := key_inv hk hq
  obtain ⟨z, hz, hyz⟩ := rd_val hy
  have e1 := rg_of hy
  have e2 : (kOf P k) e = x := by show strOf (rg P k R0 e).1 = x; rw [e1, h2]; rfl
  have e3 : y = (.string x, .nil) := by
    have : z = (.nil, []) := by simpa [R0] using hz.symm
    rw [this] at hyz
    exact Prod.ext h2 hyz
  rw [e2]; exact ⟨by rw [e1, e3], h1, h3⟩

theorem strV_inj {x y : Nm} (h : strV x = strV y) : x = y := by simpa [strV] using h

def addK (ks : List Nm) (x : Nm) : List Nm := if x ∈ ks then ks else ks ++ [x]
theorem mem_addK {ks : List Nm} {x y : Nm} : y ∈ addK ks x ↔ y ∈ ks ∨ y = x := by
  unfold addK; split
  · rename_i h; constructor
    · exact .inl
    · rintro (h1 | rfl); exact h1; exact h
  · simp
theorem addK_nodup {ks : List Nm} (h : ks.Nodup) (x : Nm) : (addK ks x).Nodup := by
  unfold addK; split
  · exact h
  · rename_i hx
    rw [List.nodup_append]
    exact ⟨h, by simp, fun a ha b hb => by simp at hb; subst hb; exact fun e => hx (e ▸ ha)⟩

theorem filter_perm_addK {ks : List Nm} (h : ks.Nodup) (x : Nm) : (x :: ks.filter (fun y => decide (y ≠ x))).Perm (addK ks x) := by
  refine (List.perm_ext_iff_of_nodup ?_ (addK_nodup h x)).2 fun y => ?_
  · rw [List.nodup_cons]
    exact ⟨by simp, h.sublist List.filter_sublist⟩
  · rw [mem_addK, List.mem_cons, List.mem_filter]
    by_cases q : y = x
    · simp [q]
    · simp [q]

theorem SMap.store (hk : P.underlying k = some .string) {w : World} {b : Nat} {ks : List Nm} {f : Nm → Value} {z : Value} (h : SMap P k w b ks f z) {t e : TypeId} (ht : P.underlying t = some (.map k e)) {x : Nm} (hx : x.length ≤ maxLen) (hn : ks.length < maxLen) (v : Value) :
  ∃ w', (Instr.mapUpdate t (.map (some b)) (strV x) v).run P w = .ok () w' ∧ SMap P k w' b (addK ks x) (upd f x v) z ∧ w.grownBy w' (some b) ∧ w'.heap.size = w.heap.size := by
 obtain ⟨es, clock, hb, F, hp, hv, hnd, hlen, hf⟩ := h
 have hsz : es.size = ks.length := by have := hp.length_eq; simpa using this
 obtain ⟨es', clock', hrun, F', hput, _, _, hwho⟩ := Maps.fit_store (R' := R0) (val := v) (yv := (.nil, [])) (strK hk) ht hb F (by omega) (fun _ _ _ _ hz => hz) (key_str hk hx) rfl
 have hrd : ∀ e ∈ es'.toList, e.key = strV ((kOf P k) e) := fun e he => (kOf_fit hk F' he).2.1
 have hperm : (es'.toList.map (kOf P k)).Perm (addK ks x) := by
  refine List.Perm.trans ?_ (filter_perm_addK hnd x)
  have h1 : (es'.toList.map (rg P k R0)).Perm ((Lit.string x, DataW.nil) :: (es.toList.map (rg P k R0)).filter (notKey (.string x))) := by
   refine (sorted_perm _).symm.trans ?_
   rw [hput, putKey]
   exact (insert_perm _ _).trans (((sorted_perm _).filter _).cons _)
  have h2 := h1.map (fun p => strOf p.1)
  have e1 : (es'.toList.map (rg P k R0)).map (fun p => strOf p.1) = es'.toList.map (kOf P k) := by first | (rw [List.map_map]; done) | (rw [List.map_map]; rfl)
  rw [e1] at h2
  refine h2.trans ?_
  rw [List.map_cons]
  refine List.Perm.cons _ ?_
  have e2 : ((es.toList.map (rg P k R0)).filter (notKey (.string x))).map (fun p => strOf p.1) = (es.toList.map (kOf P k)).filter (fun y => decide (y ≠ x)) := by
   rw [List.filter_map, List.filter_map, List.map_map]
   have : es.toList.filter (notKey (.string x) ∘ rg P k R0) = es.toList.filter ((fun y => decide (y ≠ x)) ∘ (kOf P k)) := List.filter_congr fun e he => by
    have e3 := (kOf_fit hk F he).1
    simp only [Function.comp, e3, notKey, Lit.sameKey]
    by_cases q : (kOf P k) e = x
    ·
     subst q; simp
    ·
     have q1 : (((kOf P k) e) == x) = false := by simpa using q
     first | (simp [q]; done) | (simp [q, q1]; done) | skip
   rw [this]; rfl
  rw [e2]
  exact hp.filter _
 refine ⟨_, hrun, ⟨es', clock', heap_setBlock_same hb _, F', hperm, fun e he => ⟨hrd e he, ?_⟩, addK_nodup hnd x, fun y hy => ?_, fun y hy => ?_⟩, ⟨rfl, rfl, rfl, by simp [setBlock], fun i _ hi => heap_setBlock_other hb _ (fun e => hi (by rw [e]))⟩, by simp [setBlock]⟩
 ·
  rcases hwho e he with ⟨h1, h2⟩ | ⟨h1, h2⟩
  ·
   have : (kOf P k) e ≠ x := fun e1 => h2 (by rw [hrd e he, e1])
   rw [(hv e h1).2, upd_other _ _ this]
  ·
   have : (kOf P k) e = x := strV_inj (by rw [← hrd e he, h1])
   rw [h2, this, upd_same]
 ·
  rcases mem_addK.1 hy with h1 | rfl
  ·
   exact hlen y h1
  ·
   exact hx
 ·
  rw [mem_addK, not_or] at hy
  rw [upd_other _ _ hy.2]; exact hf y hy.1

end
end Go.Proofs.YthnbeebilomchaaGreatDoor

namespace Go.Proofs.YthnbeebilomchaaGreatDoor
open Go Go.RowKit

def IM (w : World) (b : Nat) (ks : List Nm) (m : Nm → Nat) : Prop := SMap Tryz.prog 9 w b ks (fun x => .int .i64 (m x : Nat)) (.int .i64 0)

theorem IM.zero {w : World} {b : Nat} {ks : List Nm} {m : Nm → Nat} (h : IM w b ks m) {x : Nm} (hx : x ∉ ks) : m x = 0 := by
  obtain ⟨es, clock, _, _, _, _, _, _, hf⟩ := h
  have := hf x hx
  simp at this; exact this
theorem IM.congr {w w' : World} {b : Nat} {ks : List Nm} {m : Nm → Nat} (h : IM w b ks m) (hb : w'.heap[b]? = w.heap[b]?) : IM w' b ks m := SMap.congr h hb
theorem IM.lt {w : World} {b : Nat} {ks : List Nm} {m : Nm → Nat} (h : IM w b ks m) : b < w.heap.size := SMap.lt h
theorem IM.ext {w w' : World} {b : Nat} {ks : List Nm} {m : Nm → Nat} (h : IM w b ks m) (hb : Below w.heap.size w w') : IM w' b ks m := SMap.ext h hb
theorem IM.alloc {w : World} {b : Nat} {ks : List Nm} {m : Nm → Nat} (h : IM w b ks m) (o : Obj) : IM (w.alloc o) b ks m := SMap.alloc h o
theorem IM.drewN {w : World} {b : Nat} {ks : List Nm} {m : Nm → Nat} (h : IM w b ks m) (n : Nat) : IM (w.drewN n) b ks m := h
theorem IM.grown {w w' : World} {b : Nat} {ks : List Nm} {m : Nm → Nat} {row : Option Nat} (h : IM w b ks m) (hg : w.grownBy w' row) (hne : some b ≠ row) : IM w' b ks m := SMap.grown h hg hne
theorem IM.set {w : World} {b : Nat} {ks : List Nm} {m : Nm → Nat} (h : IM w b ks m) {p : Addr} (hp : b ≠ p.block) (u : Value) : IM (w.setCell p u) b ks m := SMap.set h hp u
section
variable {w : World} {ops : Array Oper} {rest : List Oper} {o : Oper} {act : Act} {Q : Exit → Act → World → Prop} {K : Act → World → Prop} {E : Prop}

end
end Go.Proofs.YthnbeebilomchaaGreatDoor

namespace Go.Proofs.YthnbeebilomchaaGreatDoor
open Go Go.RowKit

theorem take_one {α : Type} {l : List α} {k : Nat} {x : α} (h : l[k]? = some x) : l.take (k + 1) = l.take k ++ [x] := by
  rw [List.take_add_one, h]; rfl
def one (ks : List Nm) (x : Nm) : Nat := if x ∈ ks then 1 else 0
end Go.Proofs.YthnbeebilomchaaGreatDoor

namespace Go.Proofs.YthnbeebilomchaaGreatDoor
open Go Go.RowKit

def BoE (w : World) (b : Bool) (e : Ending) (w' : World) : Prop := e = .returned (.bool b) ∧ Below w.heap.size w w'
end Go.Proofs.YthnbeebilomchaaGreatDoor

namespace Go.Proofs.YthnbeebilomchaaGreatDoor
open Go

def indexK (k : Nm) : List Nm → Option Nat
  | [] => none
  | j :: l => if j = k then some 0 else (indexK k l).map (· + 1)
def stepV (v : V) (k : Nm) : Option V := if v.sort = 5 then (indexK k v.keys).bind fun i => v.list[i]? else none
def getV : V → List Nm → Option V
  | v, [] => some v
  | v, k :: p => match stepV v k with | none => none | some x => getV x p
theorem indexK_some {k : Nm} : ∀ {l : List Nm} {i : Nat}, indexK k l = some i → l[i]? = some k ∧ ∀ j, j < i → l[j]? ≠ some k
  | [], i, h => by cases h
  | j :: l, i, h => by
    unfold indexK at h
    by_cases hj : j = k
    · rw [if_pos hj] at h
      injection h with h
      subst h
      exact ⟨by simp [hj], fun _ h => by omega⟩
    · rw [if_neg hj] at h
      cases hx : indexK k l with
      | none => rw [hx] at h; cases h
      | some m =>
        rw [hx] at h
        simp only [Option.map_some, Option.some.injEq] at h
        subst h
        obtain ⟨h1, h2⟩ := indexK_some hx
        refine ⟨by simpa using h1, fun q hq => ?_⟩
        cases q with
        | zero => simpa using hj
        | succ q => simpa using h2 q (by omega)
theorem indexK_none {k : Nm} : ∀ {l : List Nm}, indexK k l = none ↔ ¬ k ∈ l
  | [] => by simp [indexK]
  | j :: l => by
    unfold indexK
    by_cases hj : j = k
    · rw [if_pos hj]; simp [hj]
    · rw [if_neg hj, Option.map_eq_none_iff, indexK_none, List.mem_cons]
      constructor
      · rintro h (e | e)
        · exact hj e.symm
        · exact h e
      · intro h e; exact h (.inr e)
theorem indexK_first {k : Nm} {l : List Nm} {i : Nat} (h : l[i]? = some k) (hf : ∀ j, j < i → l[j]? ≠ some k) : indexK k l = some i := by
  cases hx : indexK k l with
  | none =>
    exact absurd (List.mem_of_getElem? h) (indexK_none.1 hx)
  | some m =>
    obtain ⟨h1, h2⟩ := indexK_some hx
    rcases Nat.lt_trichotomy m i with h3 | h3 | h3
    · exact absurd h1 (hf m h3)
    · rw [h3]
    · exact absurd h (h2 i h3)

mutual
def sizeV : V → Nat
  | .mk _ _ _ t l ks => 1 + t.length + (ks.map fun k => 1 + k.length).sum + sizesV l
def sizesV : List V → Nat
  | [] => 0
  | v :: l => sizeV v + sizesV l
end
theorem sizesV_app : ∀ (l m : List V), sizesV (l ++ m) = sizesV l + sizesV m
  | [], m => by simp [sizesV]
  | v :: l, m => by rw [List.cons_append, sizesV, sizesV, sizesV_app l m]; omega
theorem sizesV_len : ∀ l : List V, l.length ≤ sizesV l
  | [] => Nat.zero_le _
  | .mk s o n t k ks :: l => by have := sizesV_len l; rw [sizesV, sizeV, List.length_cons]; omega
theorem sizesV_mem : ∀ {l : List V} {x : V}, x ∈ l → sizeV x ≤ sizesV l
  | y :: l, x, h => by
    rw [sizesV]
    rcases List.mem_cons.1 h with rfl | h
    · omega
    · have := sizesV_mem h; omega
end Go.Proofs.YthnbeebilomchaaGreatDoor

namespace Go.Proofs.YthnbeebilomchaaGreatDoor
open Go Go.RowKit

theorem VD.val6 (d : VD) : d.val = .agg #[.int .i64 d.sort, .bool d.on, .int .i64 d.n, .string ⟨d.text.toArray⟩, .slice d.a d.list.length d.c, .slice d.ka d.keys.length d.kc] := VD.val_eq' d
theorem BoE.from {w w' : World} {b : Bool} {e : Ending} {W : World} (h : BoE w' b e W) (hb : Below w.heap.size w w') : BoE w b e W := ⟨h.1, hb.trans (h.2.mono hb.size)⟩
end Go.Proofs.YthnbeebilomchaaGreatDoor

namespace Go.Proofs.YthnbeebilomchaaGreatDoor
open Go Go.RowKit

structure RB (w W : World) (d : VD) (m : Int) : Prop where
  val : Blk W w.heap.size #[.int .i64 d.sort, .bool d.on, .int .i64 d.n, .string ⟨d.text.toArray⟩, .slice d.a d.list.length d.c, .slice d.ka d.keys.length d.kc] 36
  most : Blk W (w.heap.size + 1) #[.int .i64 m] 3
  below : Below w.heap.size w W
theorem RB.ext {w W W' : World} {d : VD} {m : Int} (h : RB w W d m) (hb : Below W.heap.size W W') : RB w W' d m := ⟨h.val.ext hb, h.most.ext hb, h.below.trans (hb.mono h.below.size)⟩
theorem RB.made (w : World) (d : VD) (m : Int) : RB w ((w.alloc (.cells #[.int .i64 d.sort, .bool d.on, .int .i64 d.n, .string ⟨d.text.toArray⟩, .slice d.a d.list.length d.c, .slice d.ka d.keys.length d.kc] 36)).alloc (.cells #[.int .i64 m] 3)) d m :=
  ⟨(Blk.new rfl).alloc _, Blk.new (by simp), (below_a1 w _).alloc (by simp) _⟩
theorem size_parts {s : Int} {o : Bool} {n : Int} {t : Nm} {l : List V} {ks : List Nm} {N : Nat} (h : sizeV (.mk s o n t l ks) ≤ N) : t.length ≤ N ∧ ks.length ≤ N ∧ l.length ≤ N ∧ (∀ x ∈ ks, x.length ≤ N) ∧ ∀ x ∈ l, sizeV x ≤ N := by
  rw [sizeV] at h
  have h1 := sizesV_len l
  have h2 : ks.length ≤ (ks.map fun k => 1 + k.length).sum := by
    clear h
    induction ks with
    | nil => simp
    | cons k ks ih => simp only [List.map_cons, List.sum_cons, List.length_cons]; omega
  have h3 : ∀ x ∈ ks, x.length ≤ (ks.map fun k => 1 + k.length).sum := by
    clear h h2
    induction ks with
    | nil => simp
    | cons k ks ih =>
      intro x hx
      simp only [List.map_cons, List.sum_cons]
      rcases List.mem_cons.1 hx with rfl | hx
      · omega
      · have := ih x hx; omega
  refine ⟨by omega, by omega, by omega, fun x hx => ?_, fun x hx => ?_⟩
  · have := h3 x hx; omega
  · have := sizesV_mem hx; omega
end Go.Proofs.YthnbeebilomchaaGreatDoor

namespace Go.Proofs.YthnbeebilomchaaGreatDoor
open Go Go.RowKit

set_option maxHeartbeats 400000 in
theorem equal_any (a b : Option Addr) (ca cb : Nat) (la lb : List (List UInt8)) (w : World) (ha : Row w 1 a la.length (la.map strV)) (hb : Row w 1 b lb.length (lb.map strV)) (hl : la.length ≤ 1099511627776) :
  Calls Tryz.prog 53 #[.slice a la.length ca, .slice b lb.length cb] w (Ret w (IsB (la = lb))) := by
 have HA := Lib.hid ha
 have HB := Lib.hid hb
 clear ha hb
 go_enter Tryz.func53, Tryz.ntmps53
 by_cases hn : la.length = lb.length
 ·
  have hn2 : ((la.length : Int) != lb.length) = false := by simp [hn]
  go_wp2
  go_loopw [4, 13] (fun _ i wq => ∃ k : Nat, k ≤ la.length ∧ i = .int .i64 k ∧ Hid (Below w.heap.size w wq ∧ ∀ j, j < k → la[j]? = lb[j]?)) (fun _ i _ => la.length - (intOf i).toNat)
  case atStart => exact ⟨0, Nat.zero_le _, rfl, Below.refl _ _, fun j h => by omega⟩
  case round =>
   obtain ⟨k, hk, rfl, hq⟩ := hrel
   by_cases hlt : k < la.length
   ·
    obtain ⟨x, hx⟩ := get_some hlt
    obtain ⟨y, hy⟩ := get_some (l := lb) (i := k) (by omega)
    obtain ⟨ab, ao, rfl, v1⟩ := (HA.out.ext hq.out.1).elem1 hx
    obtain ⟨bb, bo, rfl, v2⟩ := (HB.out.ext hq.out.1).elem1 hy
    have Hx := Lib.hid hx
    have Hy := Lib.hid hy
    have hkl : (k : Int) < la.length := by omega
    have hkl2 : (k : Int) < lb.length := by omega
    have u1 : wr.cell? ⟨ab, ao + k, none⟩ = some (.string ⟨x.toArray⟩) := v1
    have u2 : wr.cell? ⟨bb, bo + k, none⟩ = some (.string ⟨y.toArray⟩) := v2
    clear hx hy v1 v2
    by_cases hxy : x = y
    ·
     have hne : (x == y) = true := by simpa using hxy
     have Hxy := Lib.hid hxy
     clear hxy
     go_wp2_with fail
     go_quiet (fail)
     go_wp2
     go_roundw
     case rel =>
      refine ⟨k + 1, by omega, by go_num, below_drew hq.out.1 _, fun j hj => ?_⟩
      rcases Nat.lt_or_ge j k with h | h
      ·
       exact hq.out.2 j h
      ·
       obtain rfl : j = k := by omega
       rw [Hx.out, Hy.out, Hxy.out]
     case measure => simp [intOf]; omega
    ·
     have hne : (x == y) = false := by simpa using hxy
     have Hxy := Lib.hid hxy
     clear hxy
     go_wp2_with fail
     go_quiet (fail)
     go_wp2
     go_ret
     exact ⟨_, rfl, below_drew hq.out.1 _, isB_false fun h => Hxy.out (by have := Hx.out; rw [h, Hy.out] at this; simpa using this.symm)⟩
   ·
    obtain rfl : k = la.length := by omega
    go_wp2
    go_ret
    exact ⟨_, rfl, hq.out.1, isB_true (List.ext_getElem? fun i => by rcases Nat.lt_or_ge i la.length with h | h; exact hq.out.2 i h; rw [List.getElem?_eq_none h, List.getElem?_eq_none (by omega)])⟩
 ·
  have hn2 : ((la.length : Int) != lb.length) = true := by simp; omega
  go_wp2
  go_ret
  exact ⟨_, rfl, Below.refl _ _, isB_false fun h => hn (by rw [h])⟩

set_option maxHeartbeats 1000000 in
theorem equalfunc_any (a b : Option Addr) (ca cb : Nat) (l m : List VD) (w : World) (ha : Row w 6 a l.length (l.flatMap VD.cells)) (hb : Row w 6 b m.length (m.flatMap VD.cells)) (hl : l.length ≤ 1048576)
  (hc : ∀ W (j : Nat) x y, Below w.heap.size w W → l[j]? = some x → m[j]? = some y → Calls Tryz.prog 28 #[x.val, y.val] W (Ret W (IsB (x.v = y.v)))) :
  Calls Tryz.prog 54 #[.slice a l.length ca, .slice b m.length cb, .func (.func 28) #[] #[]] w (Ret w (IsB (l.map VD.v = m.map VD.v))) := by
 have HA := Lib.hid ha
 have HB := Lib.hid hb
 have HC := Lib.hid hc
 clear ha hb hc
 go_enter Tryz.func54, Tryz.ntmps54
 by_cases hn : l.length = m.length
 ·
  have hn2 : ((l.length : Int) != m.length) = false := by simp [hn]
  have Hn := Lib.hid hn
  clear hn
  go_wp2
  go_loopw [6, 17] (fun _ i wq => ∃ k : Nat, k ≤ l.length ∧ i = .int .i64 k ∧ Hid (Below w.heap.size w wq ∧ ∀ j, j < k → (l.map VD.v)[j]? = (m.map VD.v)[j]?)) (fun _ i _ => l.length - (intOf i).toNat)
  case atStart => exact ⟨0, Nat.zero_le _, rfl, Lib.hid ⟨Below.refl _ _, fun j h => by omega⟩⟩
  case round =>
   obtain ⟨k, hk, rfl, hq⟩ := hrel
   by_cases hlt : k < l.length
   ·
    obtain ⟨x, hx⟩ := get_some hlt
    obtain ⟨y, hy⟩ := get_some (l := m) (i := k) (by have := Hn.out; omega)
    have hwl := hq.out.1.size
    obtain ⟨ab, ao, rfl, v0, v1, v2, v3, v4, v5⟩ := val_at (HA.out.ext hq.out.1) hx
    obtain ⟨bb, bo, rfl, u0, u1, u2, u3, u4, u5⟩ := val_at (HB.out.ext hq.out.1) hy
    have hbl : bb < wr.heap.size := cell_lt u0
    have Hx := Lib.hid hx
    have Hy := Lib.hid hy
    have hkl : (k : Int) < l.length := by omega
    have hkl2 : (k : Int) < m.length := by have := Hn.out; omega
    unfold strV at v3 u3
    have hcx := fun W hW => HC.out W k x y hW hx hy
    rw [VD.val6, VD.val6] at hcx
    have HCX := Lib.hid hcx
    clear hx hy hcx
    go_wp2_with fail
    refine (HCX.out _ ((hq.out.1.alloc hwl _).alloc (by simp; omega) _)).mono ?_
    rintro e W2 ⟨v, rfl, hb2, bo, rfl, hbo⟩
    have HB2 : Hid (Below w.heap.size w W2) := Lib.hid ((((hq.out.1.alloc hwl _).alloc (by simp; omega) _)).trans (hb2.mono (by simp; omega)))
    have HBO := Lib.hid hbo
    clear hb2 hbo HCX v0 v1 v2 v3 v4 v5 u0 u1 u2 u3 u4 u5
    cases bo with
    | true =>
     have Hxy : Hid (x.v = y.v) := Lib.hid (HBO.out.1 rfl)
     go_wp2
     go_roundw
     case rel =>
      refine ⟨k + 1, by omega, by go_num, Lib.hid ⟨HB2.out, fun j hj => ?_⟩⟩
      rcases Nat.lt_or_ge j k with h | h
      ·
       exact hq.out.2 j h
      ·
       obtain rfl : j = k := by omega
       rw [List.getElem?_map, List.getElem?_map, Hx.out, Hy.out, Option.map_some, Option.map_some, Hxy.out]
     case measure => simp [intOf]; omega
    | false =>
     have Hxy : Hid (x.v ≠ y.v) := Lib.hid (fun h => by have := HBO.out.2 h; cases this)
     go_wp2
     go_ret
     exact ⟨_, rfl, HB2.out, isB_false fun h => Hxy.out (by
      have h2 := congrArg (fun z => z[k]?) h
      simp only [List.getElem?_map, Hx.out, Hy.out, Option.map_some] at h2
      exact Option.some.inj h2)⟩
   ·
    obtain rfl : k = l.length := by omega
    go_wp2
    go_ret
    exact ⟨_, rfl, hq.out.1, isB_true (List.ext_getElem? fun i => by rcases Nat.lt_or_ge i l.length with h | h; exact hq.out.2 i h; rw [List.getElem?_eq_none (by simpa using h), List.getElem?_eq_none (by have := Hn.out; simp; omega)])⟩
 ·
  have hn2 : ((l.length : Int) != m.length) = true := by simp; omega
  go_wp2
  go_ret
  exact ⟨_, rfl, Below.refl _ _, isB_false fun h => hn (by have := congrArg List.length h; simpa using this)⟩

structure SB (w W : World) (d e : VD) : Prop where
  one : Blk W w.heap.size #[.int .i64 d.sort, .bool d.on, .int .i64 d.n, .string ⟨d.text.toArray⟩, .slice d.a d.list.length d.c, .slice d.ka d.keys.length d.kc] 36
  two : Blk W (w.heap.size + 1) #[.int .i64 e.sort, .bool e.on, .int .i64 e.n, .string ⟨e.text.toArray⟩, .slice e.a e.list.length e.c, .slice e.ka e.keys.length e.kc] 36
  below : Below w.heap.size w W
theorem SB.ext {w W W' : World} {d e : VD} (h : SB w W d e) (hb : Below W.heap.size W W') : SB w W' d e := ⟨h.one.ext hb, h.two.ext hb, h.below.trans (hb.mono h.below.size)⟩
theorem v_same (d e : VD) : d.v = e.v ↔ d.sort = e.sort ∧ d.on = e.on ∧ d.n = e.n ∧ d.text = e.text ∧ d.keys = e.keys ∧ d.list.map VD.v = e.list.map VD.v := by
  rw [VD.v_eq, VD.v_eq, V.mk.injEq]
  constructor
  · rintro ⟨a, b, c, d, e, f⟩; exact ⟨a, b, c, d, f, e⟩
  · rintro ⟨a, b, c, d, e, f⟩; exact ⟨a, b, c, d, f, e⟩
set_option maxHeartbeats 4000000 in
theorem same_walk (d e : VD) (w : World) (hd : ValAt w (fun _ => True) d) (he : ValAt w (fun _ => True) e) (hs : sizeV d.v ≤ 1048576)
  (hc : ∀ W (j : Nat) x y, Below w.heap.size w W → d.list[j]? = some x → e.list[j]? = some y → Calls Tryz.prog 28 #[x.val, y.val] W (Ret W (IsB (x.v = y.v)))) :
  Calls Tryz.prog 28 #[d.val, e.val] w (Ret w (IsB (d.v = e.v))) := by
 obtain ⟨W0, hW0⟩ : ∃ W0, W0 = (w.alloc (.cells #[.int .i64 d.sort, .bool d.on, .int .i64 d.n, .string ⟨d.text.toArray⟩, .slice d.a d.list.length d.c, .slice d.ka d.keys.length d.kc] 36)).alloc (.cells #[.int .i64 e.sort, .bool e.on, .int .i64 e.n, .string ⟨e.text.toArray⟩, .slice e.a e.list.length e.c, .slice e.ka e.keys.length e.kc] 36) := ⟨_, rfl⟩
 have S0 : Hid (SB w W0 d e) := Lib.hid (by rw [hW0]; exact ⟨(Blk.new rfl).alloc _, Blk.new (by simp), (below_a1 w _).alloc (by simp) _⟩)
 have hsz : sizeV (.mk d.sort d.on d.n d.text (d.list.map VD.v) d.keys) ≤ 1048576 := by rw [← VD.v_eq]; exact hs
 obtain ⟨s1, s2, s3, s4, s5⟩ := size_parts hsz
 rw [List.length_map] at s3
 clear s4 s5 hsz hs
 have HC := Lib.hid hc
 have HD := Lib.hid hd
 have HE := Lib.hid he
 rw [VD.val6, VD.val6]
 clear hd he hc
 obtain ⟨c0, c1, c2, c3, c4, c5⟩ := S0.out.one.six
 obtain ⟨e0, e1, e2, e3, e4, e5⟩ := S0.out.two.six
 go_enter Tryz.func28, Tryz.ntmps28
 go_upto_region 1 with (fail)
 rw [← hW0]
 clear hW0
 have hp := v_same d e
 generalize hP : (d.v = e.v) = P at *
 clear hP
 by_cases a1 : d.sort = e.sort
 case neg =>
  have a1' : (d.sort == e.sort) = false := by simpa using a1
  have Hn : Hid (¬ P) := Lib.hid (fun h => a1 (hp.1 h).1)
  clear hp a1
  go_wp2
  go_ret
  exact ⟨_, rfl, S0.out.below, isB_false Hn.out⟩
 by_cases a2 : d.on = e.on
 case neg =>
  have a2' : (d.on == e.on) = false := by simpa using a2
  have Hn : Hid (¬ P) := Lib.hid (fun h => a2 (hp.1 h).2.1)
  clear hp a2
  go_wp2
  go_ret
  exact ⟨_, rfl, S0.out.below, isB_false Hn.out⟩
 by_cases a3 : d.n = e.n
 case neg =>
  have a3' : (d.n == e.n) = false := by simpa using a3
  have Hn : Hid (¬ P) := Lib.hid (fun h => a3 (hp.1 h).2.2.1)
  clear hp a3
  go_wp2
  go_ret
  exact ⟨_, rfl, S0.out.below, isB_false Hn.out⟩
 by_cases a4 : d.text = e.text
 case neg =>
  have a4' : (d.text == e.text) = false := by simpa using a4
  have Hn : Hid (¬ P) := Lib.hid (fun h => a4 (hp.1 h).2.2.2.1)
  clear hp a4
  go_wp2
  go_ret
  exact ⟨_, rfl, S0.out.below, isB_false Hn.out⟩
 have hp2 : P ↔ d.keys = e.keys ∧ d.list.map VD.v = e.list.map VD.v := by rw [hp]; simp [a1, a2, a3, a4]
 have a4' : (d.text == e.text) = true := by simpa using a4
 have HP := Lib.hid hp2
 have A4 := Lib.hid a4
 clear hp hp2 a4
 have hk := equal_any d.ka e.ka d.kc e.kc d.keys e.keys W0 (HD.out.ext S0.out.below).krow (HE.out.ext S0.out.below).krow (by omega)
 have HK := Lib.hid hk
 clear hk
 go_wp2_with fail
 refine HK.out.mono ?_
 rintro r W1 ⟨v, rfl, hb, bo, rfl, hbo⟩
 have S1 := Lib.hid (S0.out.ext hb)
 clear c0 c1 c2 c3 c4 c5 e0 e1 e2 e3 e4 e5 hb HK
 obtain ⟨c0, c1, c2, c3, c4, c5⟩ := S1.out.one.six
 obtain ⟨e0, e1, e2, e3, e4, e5⟩ := S1.out.two.six
 cases bo with
 | false =>
  have Hn : Hid (¬ P) := Lib.hid (fun h => by have := hbo.2 (HP.out.1 h).1; cases this)
  clear hbo
  go_wp2
  go_ret
  exact ⟨_, rfl, S1.out.below, isB_false Hn.out⟩
 | true =>
  have Hk : Hid (d.keys = e.keys) := Lib.hid (hbo.1 rfl)
  clear hbo
  have hf := equalfunc_any d.a e.a d.c e.c d.list e.list W1 (HD.out.ext S1.out.below).row (HE.out.ext S1.out.below).row s3 (fun W j x y hb => HC.out W j x y (S1.out.ext hb).below)
  have HF := Lib.hid hf
  clear hf
  go_wp2_with fail
  refine HF.out.mono ?_
  rintro r W2 ⟨v, rfl, hb, bo, rfl, hbo⟩
  have S2 := Lib.hid (S1.out.ext hb)
  have HBO : Hid (bo = true ↔ P) := Lib.hid (by rw [hbo, HP.out]; simp [Hk.out])
  clear c0 c1 c2 c3 c4 c5 e0 e1 e2 e3 e4 e5 hb HF hbo
  go_wp2
  go_ret
  exact ⟨_, rfl, S2.out.below, bo, rfl, HBO.out⟩
theorem same_any : ∀ (d e : VD) (w : World), ValAt w (fun _ => True) d → ValAt w (fun _ => True) e → sizeV d.v ≤ 1048576 → Calls Tryz.prog 28 #[d.val, e.val] w (Ret w (IsB (d.v = e.v))) := by
  intro d
  induction d using VD.ind with
  | h s o n t a c l ka kc ks ih =>
    intro e w hd he hs
    refine same_walk _ e w hd he hs fun W j x y hb hx hy => ?_
    have hxm : x ∈ l := List.mem_of_getElem? hx
    have hsz := (size_parts (by rw [VD.v_eq] at hs; exact hs)).2.2.2.2
    exact ih x hxm y W ((hd.kid x hxm).ext hb) ((he.kid y (List.mem_of_getElem? hy)).ext hb) (hsz x.v (List.mem_map_of_mem hxm))
end Go.Proofs.YthnbeebilomchaaGreatDoor

namespace Go.Proofs.YthnbeebilomchaaGreatDoor
open Go Go.RowKit

theorem byteCells_app (l : Nm) (m : Nm) : Lib.byteCells (l ++ m) = Lib.byteCells l ++ Lib.byteCells m := by simp [Lib.byteCells]
structure QB (w W : World) (acc : Nm) : Prop where
  bld : Lib.IsBuilder 146 5 w.heap.size w.heap.size (Lib.byteCells acc) W
  below : Below w.heap.size w W
  lt : w.heap.size < W.heap.size
theorem QB.byte {w W W' : World} {acc : Nm} {c : UInt8} (h : QB w W acc) (hb : Lib.BuilderAt 146 5 w.heap.size w.heap.size (.pointer (some ⟨w.heap.size, 0, none⟩)) (Lib.byteCells acc ++ [.int .u8 (c.toNat : Int)]) W') (hk : Below w.heap.size W W') : QB w W' (acc ++ [c]) :=
  ⟨by rw [byteCells_app]; exact .inr hb, h.below.trans hk, Nat.lt_of_lt_of_le h.lt hk.size⟩
theorem QB.ext {w W W' : World} {acc : Nm} (h : QB w W acc) (hk : Below W.heap.size W W') : QB w W' acc :=
  ⟨builder_ext h.bld hk, h.below.trans (hk.mono h.below.size), Nat.lt_of_lt_of_le h.lt hk.size⟩
end Go.Proofs.YthnbeebilomchaaGreatDoor

namespace Go.Proofs.YthnbeebilomchaaGreatDoor
open Go Go.RowKit

def partsT (d : VD) : List Nm := if d.sort = 5 then textKs (d.list.map VD.v) d.keys else textsV (d.list.map VD.v)
structure TB (w W : World) (d : VD) (a : Option Addr) (k c : Nat) : Prop where
  val : Blk W w.heap.size #[.int .i64 d.sort, .bool d.on, .int .i64 d.n, .string ⟨d.text.toArray⟩, .slice d.a d.list.length d.c, .slice d.ka d.keys.length d.kc] 36
  own : Own W (w.heap.size + 1) 9 1 a k c (((partsT d).take k).map strV)
  below : Below w.heap.size w W
theorem TB.ext {w W W' : World} {d : VD} {a : Option Addr} {k c : Nat} (h : TB w W d a k c) (hb : Below W.heap.size W W') : TB w W' d a k c := ⟨h.val.ext hb, h.own.ext hb, h.below.trans (hb.mono h.below.size)⟩
theorem TB.push {w W W' : World} {d : VD} {a a' : Option Addr} {k c c' : Nat} (h : TB w W d a k c) {x : Nm} (hx : (partsT d)[k]? = some x) {o : Obj} (ho : Own W' (w.heap.size + 1) 9 1 a' (k + 1) c' (((partsT d).take k).map strV ++ [strV x])) (hg : (W.alloc o).grownBy W' (rowOf a c)) : TB w W' d a' (k + 1) c' :=
  ⟨(h.val.alloc o).grown hg (h.own.apart (by omega)), by rw [take_one hx, List.map_append]; exact ho, (h.below.alloc h.below.size o).grown hg (by have := h.below.size; simp; omega) (fun j hj => by have := h.own.rowBase (Nat.le_refl _) j hj; omega)⟩
end Go.Proofs.YthnbeebilomchaaGreatDoor

namespace Go.Proofs.YthnbeebilomchaaGreatDoor
open Go Go.RowKit

theorem VD.tmp (d : VD) : d.val = .agg #[.int .i64 d.sort, .bool d.on, .int .i64 d.n, .string ⟨d.text.toArray⟩, .slice d.a d.list.length d.c, .slice d.ka d.keys.length d.kc] := VD.val6 d

end Go.Proofs.YthnbeebilomchaaGreatDoor

namespace Go.Proofs.YthnbeebilomchaaGreatDoor
open Go Go.RowKit

def wrote (v : V) : Value := if right 20 v = true then .tuple #[.string ⟨(textV v).toArray⟩, .int .i64 0] else .tuple #[.string { data := #[] }, .int .i64 21]
def indexI (x : Nm) (ks : List Nm) : Int := match indexK x ks with | some i => (i : Int) | none => -1
theorem indexI_some {x : Nm} {ks : List Nm} {i : Nat} (h : indexK x ks = some i) : indexI x ks = i := by unfold indexI; rw [h]
theorem indexI_none {x : Nm} {ks : List Nm} (h : indexK x ks = none) : indexI x ks = -1 := by unfold indexI; rw [h]
set_option maxHeartbeats 1000000 in
theorem sindex_any (a : Option Addr) (c : Nat) (ks : List Nm) (x : Nm) (w : World) (h : Row w 1 a ks.length (ks.map strV)) (hl : ks.length ≤ 1048576) :
  Calls Tryz.prog 46 #[.slice a ks.length c, .string ⟨x.toArray⟩] w (fun e w' => e = .returned (.int .i64 (indexI x ks)) ∧ Below w.heap.size w w') := by
 have HA := Lib.hid h
 clear h
 have hind : ∀ k, k ≤ ks.length → (∀ j, j < k → ks[j]? ≠ some x) → (ks[k]? = some x → indexK x ks = some k) ∧ (k = ks.length → indexK x ks = none) := by
  intro k hk hf
  constructor
  ·
   intro hx; exact indexK_first hx hf
  ·
   intro he
   cases hi : indexK x ks with
   | none => rfl
   | some i =>
    have := indexK_some hi
    have hil : i < ks.length := (List.getElem?_eq_some_iff.1 this.1).1
    exact absurd this.1 (hf i (by omega))
 have HI := Lib.hid hind
 clear hind
 go_enter Tryz.func46, Tryz.ntmps46
 go_wp2_with fail
 go_loopw [4, 8] (fun _ i wq => ∃ k : Nat, k ≤ ks.length ∧ i = .int .i64 k ∧ Hid (Below w.heap.size w wq ∧ ∀ j, j < k → ks[j]? ≠ some x)) (fun _ i _ => ks.length - (intOf i).toNat)
 case atStart => exact ⟨0, Nat.zero_le _, rfl, Lib.hid ⟨Below.refl _ _, fun j h => by omega⟩⟩
 case round =>
  obtain ⟨k, hk, rfl, hq⟩ := hrel
  by_cases hlt : k < ks.length
  ·
   obtain ⟨y, hy⟩ := get_some hlt
   obtain ⟨ab, ao, rfl, v1⟩ := (HA.out.ext hq.out.1).elem1 hy
   have Hy := Lib.hid hy
   have hkl : (k : Int) < ks.length := by omega
   have u1 : wr.cell? ⟨ab, ao + k, none⟩ = some (.string ⟨y.toArray⟩) := v1
   clear hy v1
   by_cases hxy : x = y
   ·
    have hne : (x == y) = true := by simpa using hxy
    have Hi : Hid (indexI x ks = k) := Lib.hid (indexI_some ((HI.out k hk hq.out.2).1 (by rw [hxy]; exact Hy.out)))
    clear hxy
    go_wp2
    go_ret
    exact ⟨by rw [Hi.out]; rfl, hq.out.1⟩
   ·
    have hne : (x == y) = false := by simpa using hxy
    have Hxy := Lib.hid hxy
    clear hxy
    go_wp2
    go_roundw
    case rel =>
     refine ⟨k + 1, by omega, by go_num, Lib.hid ⟨hq.out.1, fun j hj => ?_⟩⟩
     rcases Nat.lt_or_ge j k with h | h
     ·
      exact hq.out.2 j h
     ·
      obtain rfl : j = k := by omega
      rw [Hy.out]; intro e; exact Hxy.out (Option.some.inj e).symm
    case measure => simp [intOf]; omega
  ·
   obtain rfl : k = ks.length := by omega
   have Hi : Hid (indexI x ks = -1) := Lib.hid (indexI_none ((HI.out _ (Nat.le_refl _) hq.out.2).2 rfl))
   go_wp2
   go_ret
   exact ⟨by rw [Hi.out]; rfl, hq.out.1⟩
end Go.Proofs.YthnbeebilomchaaGreatDoor

namespace Go.Proofs.YthnbeebilomchaaGreatDoor
open Go Go.RowKit

structure GB (w W : World) (e : VD) : Prop where
  val : Blk W w.heap.size #[.int .i64 e.sort, .bool e.on, .int .i64 e.n, .string ⟨e.text.toArray⟩, .slice e.a e.list.length e.c, .slice e.ka e.keys.length e.kc] 36
  res : Blk W (w.heap.size + 1) zeroV 36
  below : Below w.heap.size w W
theorem GB.ext {w W W' : World} {e : VD} (h : GB w W e) (hb : Below W.heap.size W W') : GB w W' e := ⟨h.val.ext hb, h.res.ext hb, h.below.trans (hb.mono h.below.size)⟩
theorem stepV_at (e : VD) (x : Nm) : (∃ i y, e.sort = 5 ∧ indexI x e.keys = (i : Nat) ∧ e.list[i]? = some y ∧ stepV e.v x = some y.v) ∨ (stepV e.v x = none ∧ (e.sort ≠ 5 ∨ indexI x e.keys < 0 ∨ (e.list.length : Int) ≤ indexI x e.keys)) := by
  have h : stepV e.v x = if e.sort = 5 then (indexK x e.keys).bind fun i => (e.list.map VD.v)[i]? else none := by unfold stepV; rw [VD.v_eq]; rfl
  rw [h]
  by_cases h5 : e.sort = 5
  · rw [if_pos h5]
    cases hi : indexK x e.keys with
    | none => exact .inr ⟨rfl, .inr (.inl (by rw [indexI_none hi]; omega))⟩
    | some i =>
      rw [indexI_some hi, Option.bind_some, List.getElem?_map]
      cases hy : e.list[i]? with
      | none => exact .inr ⟨rfl, .inr (.inr (by have := List.getElem?_eq_none_iff.1 hy; omega))⟩
      | some y => exact .inl ⟨i, y, h5, rfl, hy, rfl⟩
  · rw [if_neg h5]; exact .inr ⟨rfl, .inl h5⟩
theorem getV_step (v : V) (p : List Nm) {k : Nat} {x : Nm} (h : p[k]? = some x) : getV v (p.drop k) = match stepV v x with | none => none | some y => getV y (p.drop (k + 1)) := by
  have hk := (List.getElem?_eq_some_iff.1 h)
  obtain ⟨hk, hx⟩ := hk
  first | (rw [List.drop_eq_getElem_cons hk, hx, getV]; done) | (rw [List.drop_eq_getElem_cons hk, hx, getV]; cases stepV v x <;> rfl)
def GetP (w : World) (P : Nat → Prop) (r : Option V) (e : Ending) (w' : World) : Prop :=
  Below w.heap.size w w' ∧ match r with
  | none => e = .returned (.tuple #[(VD.mk 0 false 0 [] none 0 [] none 0 []).val, .bool false])
  | some v => ∃ x, e = .returned (.tuple #[VD.val x, .bool true]) ∧ x.v = v ∧ ValAt w P x
theorem get_end {W : World} {tm : Array Value} {R : Ending → World → Prop} {g : Nat} {u0 u1 u2 u3 u4 u5 : Value} {k : Bool} (h2 : tm.getD 4 undef = .pointer (some ⟨g, 0, none⟩)) (h3 : tm.getD 5 undef = .bool k) (hB : Blk W g #[u0, u1, u2, u3, u4, u5] 36)
    (hR : R (.returned (.tuple #[.agg #[u0, u1, u2, u3, u4, u5], .bool k])) W) : bodyPost Tryz.prog Tryz.f44 R .ret { tmps := tm, defers := [] } W := by
  have d0 := hB.cell 0
  have d1 := hB.cell 1
  have d2 := hB.cell 2
  have d3 := hB.cell 3
  have d4 := hB.cell 4
  have d5 := hB.cell 5
  simp only [List.getElem?_toArray, List.getElem?_cons_zero, List.getElem?_cons_succ] at d0 d1 d2 d3 d4 d5
  rw [Array.getD_eq_getD_getElem?] at h2 h3
  refine bodyPost_ret (v := .tuple #[.agg #[u0, u1, u2, u3, u4, u5], .bool k]) ?_ rfl hR
  simp [results, Tryz.results44, go_sem, h2, h3, d0, d1, d2, d3, d4, d5]
theorem getP_none {w W : World} {P : Nat → Prop} {r : Option V} (h : r = none) (hb : Below w.heap.size w W) : GetP w P r (.returned (.tuple #[.agg #[.int .i64 0, .bool false, .int .i64 0, .string { data := #[] }, .slice none 0 0, .slice none 0 0], .bool false])) W := by
  subst h; exact ⟨hb, rfl⟩
set_option maxHeartbeats 2000000 in
theorem get_anyP (P : Nat → Prop) (d : VD) (pa : Option Addr) (pc : Nat) (p : List Nm) (w : World) (hv : ValAt w P d) (hp : Row w 1 pa p.length (p.map strV)) (hl : p.length ≤ 1048576) (hs : sizeV d.v ≤ 1048576) :
  Calls Tryz.prog 44 #[d.val, .slice pa p.length pc] w (GetP w P (getV d.v p)) := by
 obtain ⟨W0, hW0⟩ : ∃ W0, W0 = (w.alloc (.cells #[.int .i64 d.sort, .bool d.on, .int .i64 d.n, .string ⟨d.text.toArray⟩, .slice d.a d.list.length d.c, .slice d.ka d.keys.length d.kc] 36)).alloc (.cells #[.int .i64 0, .bool false, .int .i64 0, .string { data := #[] }, .slice none 0 0, .slice none 0 0] 36) := ⟨_, rfl⟩
 have G0 : Hid (GB w W0 d) := Lib.hid (by rw [hW0]; exact ⟨(Blk.new rfl).alloc _, Blk.new (by simp), (below_a1 w _).alloc (by simp) _⟩)
 have HV := Lib.hid hv
 have HP := Lib.hid hp
 have HS := Lib.hid hs
 rw [VD.val6]
 obtain ⟨res, hres⟩ : ∃ r, r = getV d.v p := ⟨_, rfl⟩
 rw [← hres]
 have HRES := Lib.hid hres
 clear hv hp hs hres
 go_enter Tryz.func44, Tryz.ntmps44
 go_upto_region 1 with (fail)
 rw [← hW0]
 clear hW0
 go_wp2_with fail
 go_loopw [5, 11] (fun _ i wr => ∃ (k : Nat) (e : VD), k ≤ p.length ∧ i = .int .i64 k ∧ Hid (GB w wr e) ∧ Hid (ValAt w P e ∧ sizeV e.v ≤ 1048576) ∧ Hid (res = getV e.v (p.drop k))) (fun _ i _ => p.length - (intOf i).toNat)
 case atStart => exact ⟨0, d, Nat.zero_le _, rfl, G0, Lib.hid ⟨HV.out, HS.out⟩, HRES⟩
 case round =>
  obtain ⟨k, e, hk, rfl, hg, hve, hr⟩ := hrel
  by_cases hlt : k < p.length
  ·
   obtain ⟨x, hx⟩ := get_some hlt
   have hgs := getV_step e.v p hx
   obtain ⟨pb, po, rfl, u0⟩ := (HP.out.ext hg.out.below).elem1 hx
   unfold strV at u0
   have hkl : (k : Int) < p.length := by omega
   have hsz : sizeV (.mk e.sort e.on e.n e.text (e.list.map VD.v) e.keys) ≤ 1048576 := by rw [← VD.v_eq]; exact hve.out.2
   obtain ⟨-, s2, s3, -, s5⟩ := size_parts hsz
   rw [List.length_map] at s3
   have S5 := Lib.hid s5
   obtain ⟨c0, c1, c2, c3, c4, c5⟩ := hg.out.val.six
   have Hgs := Lib.hid hgs
   have hidx := sindex_any e.ka e.kc e.keys x wr (hve.out.1.ext hg.out.below).krow s2
   have HIDX := Lib.hid hidx
   have hst := stepV_at e x
   generalize indexI x e.keys = i at *
   have HST := Lib.hid hst
   clear hx hgs s5 hsz hidx hst
   go_wp2_with fail
   refine HIDX.out.mono ?_
   rintro r w2 ⟨rfl, hb2⟩
   have hg2 := hg.out.ext hb2
   have G2 := Lib.hid hg2
   clear hb2 c0 c1 c2 c3 c4 c5 HIDX hg2 u0
   obtain ⟨c0, c1, c2, c3, c4, c5⟩ := G2.out.val.six
   have f0 := G2.out.val.free 0
   have f1 := G2.out.val.free 1
   have f2 := G2.out.val.free 2
   have f3 := G2.out.val.free 3
   have f4 := G2.out.val.free 4
   have f5 := G2.out.val.free 5
   have q0 := G2.out.res.cell 0
   have q1 := G2.out.res.cell 1
   have q2 := G2.out.res.cell 2
   have q3 := G2.out.res.cell 3
   have q4 := G2.out.res.cell 4
   have q5 := G2.out.res.cell 5
   have g0 := G2.out.res.free 0
   have g1 := G2.out.res.free 1
   have g2 := G2.out.res.free 2
   have g3 := G2.out.res.free 3
   have g4 := G2.out.res.free 4
   have g5 := G2.out.res.free 5
   unfold zeroV at q0 q1 q2 q3 q4 q5
   simp only [List.getElem?_toArray, List.getElem?_cons_zero, List.getElem?_cons_succ] at q0 q1 q2 q3 q4 q5
   rcases HST.out with ⟨j, y, h5, rfl, hy, hsv⟩ | ⟨hno, hwhy⟩
   ·
    have hjl : j < e.list.length := (List.getElem?_eq_some_iff.1 hy).1
    have hji : (j : Int) < e.list.length := by omega
    obtain ⟨b, off, hea, v0, v1, v2, v3, v4, v5⟩ := val_at (hve.out.1.ext G2.out.below).row hy
    unfold strV at v3
    rw [hea] at c4
    have hym : y ∈ e.list := List.mem_of_getElem? hy
    have Hy : Hid (ValAt w P y ∧ sizeV y.v ≤ 1048576) := Lib.hid ⟨hve.out.1.kid y hym, S5.out _ (List.mem_map_of_mem hym)⟩
    have Hr : Hid (res = getV y.v (p.drop (k + 1))) := Lib.hid (by rw [hr.out, Hgs.out, hsv])
    clear hy hsv
    go_upto_region 8 with (fail)
    have hg3 : GB w (put6 w2 w.heap.size 0 (.int .i64 y.sort) (.bool y.on) (.int .i64 y.n) (.string ⟨y.text.toArray⟩) (.slice y.a y.list.length y.c) (.slice y.ka y.keys.length y.kc)) y :=
     ⟨store6_val y G2.out.val, G2.out.res.other6 (by omega), put6_below (o := 0) G2.out.below (Nat.le_refl _)⟩
    obtain ⟨W3, hW3⟩ : ∃ W3, W3 = put6 w2 w.heap.size 0 (.int .i64 y.sort) (.bool y.on) (.int .i64 y.n) (.string ⟨y.text.toArray⟩) (.slice y.a y.list.length y.c) (.slice y.ka y.keys.length y.kc) := ⟨_, rfl⟩
    rw [← hW3] at hg3
    have G3 := Lib.hid hg3
    unfold put6 at hW3
    simp only [Nat.zero_add] at hW3
    rw [← hW3]
    clear hg3 hW3 c0 c1 c2 c3 c4 c5 f0 f1 f2 f3 f4 f5 q0 q1 q2 q3 q4 q5 g0 g1 g2 g3 g4 g5 v0 v1 v2 v3 v4 v5
    go_wp2
    go_roundw
    case rel => exact ⟨k + 1, y, by omega, by go_num, G3, Hy, Hr⟩
    case measure => simp [intOf]; omega
   ·
    have Hno : Hid (res = none) := Lib.hid (by rw [hr.out, Hgs.out, hno])
    clear hno
    rcases hwhy with h5 | h5 | h5
    ·
     go_wp2
     refine get_end (g := w.heap.size + 1) rfl rfl (store6 G2.out.res) ?_
     exact getP_none Hno.out (put6_below (o := 0) G2.out.below (by omega))
    ·
     by_cases h55 : e.sort = 5
     ·
      go_wp2
      refine get_end (g := w.heap.size + 1) rfl rfl (store6 G2.out.res) ?_
      exact getP_none Hno.out (put6_below (o := 0) G2.out.below (by omega))
     ·
      go_wp2
      refine get_end (g := w.heap.size + 1) rfl rfl (store6 G2.out.res) ?_
      exact getP_none Hno.out (put6_below (o := 0) G2.out.below (by omega))
    ·
     have hi0 : 0 ≤ i := by omega
     by_cases h55 : e.sort = 5
     ·
      go_wp2
      refine get_end (g := w.heap.size + 1) rfl rfl (store6 G2.out.res) ?_
      exact getP_none Hno.out (put6_below (o := 0) G2.out.below (by omega))
     ·
      go_wp2
      refine get_end (g := w.heap.size + 1) rfl rfl (store6 G2.out.res) ?_
      exact getP_none Hno.out (put6_below (o := 0) G2.out.below (by omega))
  ·
   obtain rfl : k = p.length := by omega
   have G2 := hg
   obtain ⟨c0, c1, c2, c3, c4, c5⟩ := G2.out.val.six
   have q0 := G2.out.res.cell 0
   have q1 := G2.out.res.cell 1
   have q2 := G2.out.res.cell 2
   have q3 := G2.out.res.cell 3
   have q4 := G2.out.res.cell 4
   have q5 := G2.out.res.cell 5
   have g0 := G2.out.res.free 0
   have g1 := G2.out.res.free 1
   have g2 := G2.out.res.free 2
   have g3 := G2.out.res.free 3
   have g4 := G2.out.res.free 4
   have g5 := G2.out.res.free 5
   unfold zeroV at q0 q1 q2 q3 q4 q5
   simp only [List.getElem?_toArray, List.getElem?_cons_zero, List.getElem?_cons_succ] at q0 q1 q2 q3 q4 q5
   have Hs : Hid (res = some e.v) := Lib.hid (by rw [hr.out, List.drop_length]; rfl)
   go_wp2
   refine get_end (g := w.heap.size + 1) rfl rfl (store6 G2.out.res) ?_
   refine ⟨put6_below (o := 0) G2.out.below (by omega), ?_⟩
   rw [Hs.out]
   exact ⟨e, by rw [VD.val6], rfl, hve.out.1⟩
def GetE (w : World) (r : Option V) (e : Ending) (w' : World) : Prop :=
  Below w.heap.size w w' ∧ match r with
  | none => e = .returned (.tuple #[(VD.mk 0 false 0 [] none 0 [] none 0 []).val, .bool false])
  | some v => ∃ x, e = .returned (.tuple #[VD.val x, .bool true]) ∧ x.v = v ∧ ValAt w (fun _ => True) x
end Go.Proofs.YthnbeebilomchaaGreatDoor

namespace Go.Proofs.YthnbeebilomchaaGreatDoor
open Go Go.RowKit

theorem readE_ok {w w' : World} {v : V} {r : Nm} {e : Ending} (h : ReadE w (.ok v r) e w') : ∃ d : VD, e = .returned (.tuple #[.agg #[.int .i64 d.sort, .bool d.on, .int .i64 d.n, .string ⟨d.text.toArray⟩, .slice d.a d.list.length d.c, .slice d.ka d.keys.length d.kc], .int .i64 0]) ∧ d.v = v ∧ ValAt w' (fun _ => True) d ∧ Below w.heap.size w w' := by
  obtain ⟨hb, d, he, hv, ha⟩ := h
  rw [VD.val6] at he
  exact ⟨d, he, hv, ha.mono fun _ _ _ => trivial, hb⟩
end Go.Proofs.YthnbeebilomchaaGreatDoor

namespace Go.Proofs.YthnbeebilomchaaGreatDoor
open Go Go.RowKit

def keysN (l : List Nm) : Nat := (l.map fun k => 1 + k.length).sum
theorem keysN_take {l : List Nm} {i : Nat} {x : Nm} (hx : l[i]? = some x) : keysN (l.take (i + 1)) = keysN (l.take i) + (1 + x.length) := by
  unfold keysN; rw [List.take_add_one, hx, Option.toList_some, List.map_append, List.sum_append]; simp
theorem keysN_le (l : List Nm) (i : Nat) : keysN (l.take i) ≤ keysN l := by
  unfold keysN
  conv => rhs; rw [← List.take_append_drop i l, List.map_append, List.sum_append]
  omega
theorem sizesV_take {l : List VD} {i : Nat} {x : VD} (hx : l[i]? = some x) : sizesV ((l.take (i + 1)).map VD.v) = sizesV ((l.take i).map VD.v) + sizeV x.v := by
  rw [List.take_add_one, hx, Option.toList_some, List.map_append, sizesV_app]; simp [sizesV]
theorem sizesV_le (l : List VD) (i : Nat) : sizesV ((l.take i).map VD.v) ≤ sizesV (l.map VD.v) := by
  conv => rhs; rw [← List.take_append_drop i l, List.map_append, sizesV_app]
  omega
theorem sizeV_eq (d : VD) : sizeV d.v = 1 + d.text.length + keysN d.keys + sizesV (d.list.map VD.v) := by first | (rw [VD.v_eq, sizeV]; done) | (rw [VD.v_eq, sizeV]; rfl)
theorem Blk.sixT {w : World} {g : Nat} {v0 v1 v2 v3 v4 v5 : Value} {T : TypeId} (h : Blk w g #[v0, v1, v2, v3, v4, v5] T) : w.cell? ⟨g, 0, none⟩ = some v0 ∧ w.cell? ⟨g, 1, none⟩ = some v1 ∧ w.cell? ⟨g, 2, none⟩ = some v2 ∧ w.cell? ⟨g, 3, none⟩ = some v3 ∧ w.cell? ⟨g, 4, none⟩ = some v4 ∧ w.cell? ⟨g, 5, none⟩ = some v5 :=
  ⟨h.cell 0, h.cell 1, h.cell 2, h.cell 3, h.cell 4, h.cell 5⟩
def SizE (w : World) (s : Nat) (e : Ending) (w' : World) : Prop := ∃ m : Nat, e = .returned (.int .i64 m) ∧ m ≤ s ∧ (m ≤ 400 → m = s) ∧ Below w.heap.size w w'
theorem keysN_len (l : List Nm) : l.length ≤ keysN l := by
  unfold keysN
  induction l with
  | nil => simp
  | cons a l ih => simp only [List.map_cons, List.sum_cons, List.length_cons]; omega

set_option maxHeartbeats 4000000 in
theorem size_any (d : VD) : ∀ (W : World), ValAt W (fun _ => True) d → sizeV d.v ≤ 1048576 → Calls Tryz.prog 13 #[d.val] W (SizE W (sizeV d.v)) := by
 induction d using VD.ind with
 | h s o n t a c ks ka kc keys ih =>
  intro W h hw
  have hwt := sizeV_eq (.mk s o n t a c ks ka kc keys)
  simp only [VD.text, VD.keys, VD.list] at hwt
  rw [hwt] at hw ⊢
  have hks : ks.length ≤ sizesV (ks.map VD.v) := by have := sizesV_len (ks.map VD.v); simpa using this
  have hkl := keysN_len keys
  have HR := Lib.hid h.row
  have HKR := Lib.hid h.krow
  simp only [VD.keys, VD.list, VD.ka, VD.a] at HR HKR
  have HKID : Hid (∀ x ∈ ks, ValAt W (fun _ => True) x) := Lib.hid h.kid
  have HW : Hid (∀ i, sizesV ((ks.take i).map VD.v) ≤ sizesV (ks.map VD.v)) := Lib.hid (sizesV_le ks)
  have HK : Hid (∀ i, keysN (keys.take i) ≤ keysN keys) := Lib.hid (keysN_le keys)
  have HI : Hid (∀ x ∈ ks, ∀ V, ValAt V (fun _ => True) x → sizeV x.v ≤ 1048576 → Calls Tryz.prog 13 #[x.val] V (SizE V (sizeV x.v))) := Lib.hid fun x hx V hV hs => ih x hx V hV hs
  clear ih h hwt
  generalize hKN : keysN keys = KN at *
  generalize hSN : sizesV (ks.map VD.v) = SN at *
  have HKN := Lib.hid hKN
  have HSN := Lib.hid hSN
  clear hKN hSN
  unfold VD.val VD.cells strV
  go_enter Tryz.func13, Tryz.ntmps13
  go_wp2_with fail
  obtain ⟨w1, hw1⟩ : ∃ w1, w1 = W.alloc (.cells #[.int .i64 s, .bool o, .int .i64 n, .string ⟨t.toArray⟩, .slice a ks.length c, .slice ka keys.length kc] 26) := ⟨_, rfl⟩
  have hb1 : Below W.heap.size W w1 := by rw [hw1]; exact below_a1 _ _
  have HBL : Hid (Blk w1 W.heap.size #[.int .i64 s, .bool o, .int .i64 n, .string ⟨t.toArray⟩, .slice a ks.length c, .slice ka keys.length kc] 26) := Lib.hid (by rw [hw1]; exact Blk.new rfl)
  have Hb1 := Lib.hid hb1
  try rw [← hw1]
  clear hw1 hb1
  go_loopw [3, 4] (fun n i wr => ∃ (q m : Nat), q ≤ keys.length ∧ i = .int .i64 q ∧ n = .int .i64 m ∧ m = 1 + t.length + keysN (keys.take q) ∧ Hid (Below w1.heap.size w1 wr)) (fun _ i _ => keys.length - (intOf i).toNat)
  case atStart => exact ⟨0, 1 + t.length, Nat.zero_le _, rfl, by first | rfl | go_num, by simp [keysN], Lib.hid (Below.refl _ _)⟩
  case round =>
   obtain ⟨q, m, hq, rfl, rfl, hm, hb⟩ := hrel
   have hwq := HK.out q
   obtain ⟨y0, y1, y2, y3, y4, y5⟩ := (HBL.out.ext hb.out).sixT
   by_cases hlt : q < keys.length
   ·
    obtain ⟨x, hx⟩ := get_some hlt
    have hB := Hb1.out.trans (hb.out.mono Hb1.out.size)
    obtain ⟨yb, yo, rfl, yk⟩ := (HKR.out.ext hB).elem1 hx
    unfold strV at yk
    have hkt := keysN_take hx
    have hwq1 := HK.out (q + 1)
    rw [hkt] at hwq1
    have Hkt := Lib.hid hkt
    have hmb : m + 1 + x.length ≤ 1048577 := by omega
    have HM := Lib.hid hm
    clear hkt hx hm hB
    go_wp2
    go_roundw
    case rel => exact ⟨q + 1, m + 1 + x.length, by omega, by go_num, by go_num, by rw [Hkt.out]; have := HM.out; omega, hb⟩
    case measure => simp [intOf]; omega
   ·
    obtain rfl : q = keys.length := by omega
    rw [List.take_length] at hm hwq
    rw [HKN.out] at hm hwq
    have HB2 := Lib.hid (Hb1.out.trans (hb.out.mono Hb1.out.size))
    have HBL2 := Lib.hid (HBL.out.ext hb.out)
    clear hb hwq
    go_wp2_with fail
    clear y0 y1 y2 y3 y4 y5
    go_loopw [3, 5] (fun n i wr' => ∃ (q m : Nat), q ≤ ks.length ∧ i = .int .i64 q ∧ n = .int .i64 m ∧ m ≤ 1 + t.length + KN + sizesV ((ks.take q).map VD.v) ∧ (m ≤ 400 → m = 1 + t.length + KN + sizesV ((ks.take q).map VD.v)) ∧ Hid (Below wr.heap.size wr wr')) (fun _ i _ => ks.length - (intOf i).toNat)
    case atStart => exact ⟨0, m, Nat.zero_le _, rfl, rfl, by simp [sizesV]; omega, fun _ => by simp [sizesV]; omega, Lib.hid (Below.refl _ _)⟩
    case round =>
     obtain ⟨q2, m2, hq2, rfl, rfl, hm2, hm3, hb⟩ := hrel
     have hwq := HW.out q2
     obtain ⟨y0, y1, y2, y3, y4, y5⟩ := (HBL2.out.ext hb.out).sixT
     by_cases hlt : q2 < ks.length
     ·
      by_cases hm4 : m2 ≤ 400
      ·
       obtain ⟨x, hx⟩ := get_some hlt
       have hB := HB2.out.trans (hb.out.mono HB2.out.size)
       obtain ⟨b, off, rfl, c0, c1, c2, c3, c4, c5⟩ := val_at (HR.out.ext hB) hx
       have hxm := List.mem_of_getElem? hx
       have htk := sizesV_take hx
       have hwq1 := HW.out (q2 + 1)
       rw [htk] at hwq1
       have hc := HI.out x hxm _ ((HKID.out x hxm).ext hB) (by omega)
       rw [VD.val6] at hc
       have Hc := Lib.hid hc
       have Htk := Lib.hid htk
       have HM3 := Lib.hid (hm3 hm4)
       unfold strV at c3
       clear hc hx hxm htk hB hm3
       go_wp2_with fail
       refine Hc.out.mono ?_
       clear Hc
       rintro e w2 ⟨mx, rfl, hmx, hmx2, hb2⟩
       have Hb2 := Lib.hid (hb.out.trans (hb2.mono hb.out.size))
       have HMX := Lib.hid hmx2
       clear hb2 hmx2
       go_wp2
       go_roundw
       case rel => exact ⟨q2 + 1, m2 + mx, by omega, by go_num, by go_num, by rw [Htk.out]; omega, fun h => by rw [Htk.out]; have := HM3.out; have := HMX.out (by omega); omega, Hb2⟩
       case measure => simp [intOf]; omega
      ·
       have HM3 := Lib.hid hm3
       clear hm3
       go_wp2
       go_ret
       exact ⟨m2, rfl, by omega, fun h => by omega, HB2.out.trans (hb.out.mono HB2.out.size)⟩
     ·
      obtain rfl : q2 = ks.length := by omega
      rw [List.take_length, HSN.out] at hm2 hm3
      have HM3 := Lib.hid hm3
      clear hm3
      go_wp2
      go_ret
      exact ⟨m2, rfl, by omega, fun h => by have := HM3.out h; omega, HB2.out.trans (hb.out.mono HB2.out.size)⟩
end Go.Proofs.YthnbeebilomchaaGreatDoor

namespace Go.Proofs.YthnbeebilomchaaGreatDoor
open Go Go.RowKit

theorem Tryz.infoDoc : (Tryz.prog.info? 26).map (fun i => (i.zero, i.size, i.bytes)) = some (some (.agg #[.int .i64 0, .bool false, .int .i64 0, .string ByteArray.empty, .slice none 0 0, .slice none 0 0]), 6, 88) := by kernel_rfl
theorem cells_list (d : VD) : d.cells = [.int .i64 d.sort, .bool d.on, .int .i64 d.n, .string ⟨d.text.toArray⟩, .slice d.a d.list.length d.c, .slice d.ka d.keys.length d.kc] := by cases d; rfl
structure OV (T TA : TypeId) (B : Nat) (w0 wr : World) (d : VD) (vs : List VD) (la : Option Addr) (lc : Nat) : Prop where
  arg : Blk wr w0.heap.size #[.int .i64 d.sort, .bool d.on, .int .i64 d.n, .string ⟨d.text.toArray⟩, .slice d.a d.list.length d.c, .slice d.ka d.keys.length d.kc] TA
  res : Blk wr (w0.heap.size + 1) #[.int .i64 0, .bool false, .int .i64 0, .string { data := #[] }, .slice none 0 0, .slice none 0 0] T
  blk : Blk wr (w0.heap.size + 2) #[.int .i64 d.sort, .bool d.on, .int .i64 d.n, .string ⟨d.text.toArray⟩, .slice la vs.length lc, .slice d.ka d.keys.length d.kc] T
  own : Own wr (w0.heap.size + 3) T 6 la vs.length lc (vs.flatMap VD.cells)
  at' : ∀ x ∈ vs, ValAt wr (fun k => (k < B ∨ w0.heap.size + 3 ≤ k) ∧ rowOf la lc ≠ some k) x
  below : Below w0.heap.size w0 wr
section
variable {T TA : TypeId} {B : Nat} {w0 wr W W7 : World} {d x : VD} {vs : List VD} {la la' : Option Addr} {lc lc' : Nat}
theorem OV.ext (h : OV T TA B w0 wr d vs la lc) (hb : Below wr.heap.size wr W) : OV T TA B w0 W d vs la lc :=
  ⟨h.arg.ext hb, h.res.ext hb, h.blk.ext hb, h.own.ext hb, fun x hx => (h.at' x hx).ext hb, h.below.trans (hb.mono h.below.size)⟩
theorem OV.push (hB : B ≤ w0.heap.size) (h : OV T TA B w0 wr d vs la lc) (hb : Below wr.heap.size wr W) (hx : ValAt W (fun k => k < B ∨ wr.heap.size ≤ k) x) (o : Obj)
  (ho : Own W7 (w0.heap.size + 3) T 6 la' (vs.length + 1) lc' ((vs ++ [x]).flatMap VD.cells)) (hg : (W.alloc o).grownBy W7 (rowOf la lc)) (hbk : rowOf la' lc' = rowOf la lc ∨ rowOf la' lc' = some (W.alloc o).heap.size) :
  OV T TA B w0 (W7.setCell ⟨w0.heap.size + 2, 4, none⟩ (.slice la' (vs.length + 1) lc')) d (vs ++ [x]) la' lc' := by
 have hws := h.blk.lt
 have hap : ∀ j, j < w0.heap.size + 3 → some j ≠ rowOf la lc := fun j hj => h.own.apart hj
 obtain ⟨k1, k2, k3⟩ := grown_from (hb.alloc hb.size o) hg hbk
 obtain ⟨x1, x2, x3⟩ := grown_from (below_a1 W o) hg hbk
 have hkk : ∀ j, j < w0.heap.size + 3 → W7.heap[j]? = wr.heap[j]? := fun j hj => k1 j (by omega) (hap j hj)
 refine ⟨?_, ?_, ?_, ?_, ?_, ?_⟩
 ·
  exact Blk.other (p := ⟨w0.heap.size + 2, 4, none⟩) ((hkk _ (by omega)).trans h.arg) (by show w0.heap.size ≠ w0.heap.size + 2; omega) _
 ·
  exact Blk.other (p := ⟨w0.heap.size + 2, 4, none⟩) ((hkk _ (by omega)).trans h.res) (by show w0.heap.size + 1 ≠ w0.heap.size + 2; omega) _
 ·
  have := Blk.set (w := W7) (g := w0.heap.size + 2) ((hkk _ (by omega)).trans h.blk) 4 (.slice la' (vs.length + 1) lc')
  simpa using this
 ·
  have := ho.setCell_other (p := ⟨w0.heap.size + 2, 4, none⟩) (blockOf_ne (b := w0.heap.size + 2) ho (by omega)) (.slice la' (vs.length + 1) lc')
  simpa using this
 ·
  intro y hy
  have hy2 : ValAt W (fun k => ((k < B ∨ w0.heap.size + 3 ≤ k) ∧ some k ≠ rowOf la lc) ∧ rowOf la' lc' ≠ some k) y := by
   have hy3 : ValAt W (fun k => (k < B ∨ w0.heap.size + 3 ≤ k) ∧ some k ≠ rowOf la lc) y := by
    rcases List.mem_append.1 hy with hy | hy
    ·
     exact ((h.at' y hy).ext hb).mono fun g hp _ => ⟨hp.1, fun e => hp.2 e.symm⟩
    ·
     rw [List.mem_singleton] at hy; rw [hy]
     refine hx.mono fun g hp _ => ?_
     rcases hp with hp | hp
     ·
      exact ⟨.inl hp, hap g (by omega)⟩
     ·
      exact ⟨.inr (by omega), own_new h.own hp⟩
   refine hy3.mono fun g hp hlt => ⟨hp, ?_⟩
   rcases x3 with hr | ⟨j, hr, hj⟩
   ·
    rw [hr]; exact fun e => hp.2 e.symm
   ·
    rw [hr]; intro e; injection e; omega
  have h3 := hy2.congr (w' := W7.setCell ⟨w0.heap.size + 2, 4, none⟩ (.slice la' (vs.length + 1) lc')) fun g hp hlt => by
   rw [Below.heap_setCell W7 ⟨w0.heap.size + 2, 4, none⟩ _ g (by show g ≠ w0.heap.size + 2; omega)]
   exact x1 g hlt hp.1.2
  exact h3.mono fun g hp _ => ⟨hp.1.1, hp.2⟩
 ·
  have h0 : Below w0.heap.size w0 (W.alloc o) := (h.below.trans (hb.mono h.below.size)).alloc (by have := h.below.size; have := hb.size; omega) _
  refine (h0.grown hg h0.size (fun j hj => ?_)).setCell (p := ⟨w0.heap.size + 2, 4, none⟩) (by show w0.heap.size ≤ w0.heap.size + 2; omega) _
  have := h.own.rowBase (Nat.le_refl _) j hj
  omega
end
def box3V (T TA : TypeId) (w : World) (d : VD) : World := ((w.alloc (.cells #[.int .i64 d.sort, .bool d.on, .int .i64 d.n, .string ⟨d.text.toArray⟩, .slice d.a d.list.length d.c, .slice d.ka d.keys.length d.kc] TA)).alloc (.cells #[.int .i64 0, .bool false, .int .i64 0, .string { data := #[] }, .slice none 0 0, .slice none 0 0] T)).alloc (.cells #[.int .i64 d.sort, .bool d.on, .int .i64 d.n, .string ⟨d.text.toArray⟩, .slice none 0 0, .slice d.ka d.keys.length d.kc] T)
theorem OV.start (T TA : TypeId) (B : Nat) (w : World) (d : VD) : OV T TA B w (box3V T TA w d) d [] none 0 := by
  unfold box3V
  refine ⟨((Blk.new rfl).alloc _).alloc _, (Blk.new (by simp)).alloc _, Blk.new (by simp), Own.nil _ _ _ _, (fun x hx => by cases hx), ((below_a1 w _).alloc (by simp) _).alloc (by simp; omega) _⟩
def OfE (B : Nat) (w : World) (v : V) (e : Ending) (w' : World) : Prop := ∃ d' : VD, e = .returned (.agg #[.int .i64 d'.sort, .bool d'.on, .int .i64 d'.n, .string ⟨d'.text.toArray⟩, .slice d'.a d'.list.length d'.c, .slice d'.ka d'.keys.length d'.kc]) ∧ d'.v = v ∧ ValAt w' (fun k => k < B ∨ w.heap.size ≤ k) d' ∧ Below w.heap.size w w'
theorem OV.fin {T TA : TypeId} {B : Nat} {w0 wr : World} {d : VD} {vs : List VD} {la : Option Addr} {lc : Nat} (hB : B ≤ w0.heap.size) (h : OV T TA B w0 wr d vs la lc) (hk : ValAt w0 (fun k => k < B) d) (hv : vs.map VD.v = d.list.map VD.v) :
  OfE B w0 d.v (.returned (.agg #[.int .i64 d.sort, .bool d.on, .int .i64 d.n, .string ⟨d.text.toArray⟩, .slice la vs.length lc, .slice d.ka d.keys.length d.kc]))
   (put6 wr (w0.heap.size + 1) 0 (.int .i64 d.sort) (.bool d.on) (.int .i64 d.n) (.string ⟨d.text.toArray⟩) (.slice la vs.length lc) (.slice d.ka d.keys.length d.kc)) := by
 refine ⟨VD.mk d.sort d.on d.n d.text la lc vs d.ka d.kc d.keys, rfl, by rw [VD.v, vsOf_map, hv, VD.v_eq d], ?_, put6_below (o := 0) h.below (by omega)⟩
 have hsz := h.below.size
 have hot : ∀ g, (g < B ∨ w0.heap.size + 3 ≤ g) → (put6 wr (w0.heap.size + 1) 0 (.int .i64 d.sort) (.bool d.on) (.int .i64 d.n) (.string ⟨d.text.toArray⟩) (.slice la vs.length lc) (.slice d.ka d.keys.length d.kc)).heap[g]? = wr.heap[g]? := fun g hg => put6_other (by omega)
 refine .mk ?_ ?_ (fun g _ hg => .inr (by have := h.own.base hg; omega)) (fun g h0 hg => .inl (hk.kblk g h0 hg)) (fun x hx => ?_)
 ·
  exact h.own.row.congr fun g _ hg _ => hot g (.inr (h.own.base hg))
 ·
  exact (hk.krow.ext h.below).congr fun g h0 hg _ => hot g (.inl (hk.kblk g (by omega) hg))
 ·
  exact ((h.at' x hx).congr fun g hg _ => hot g hg.1).mono fun g hg _ => by omega
end Go.Proofs.YthnbeebilomchaaGreatDoor
