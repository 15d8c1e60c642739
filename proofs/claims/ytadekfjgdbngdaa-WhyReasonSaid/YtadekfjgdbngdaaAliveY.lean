/- The live question of reasons, walked. -/
import Derived.Test.YtadekfjgdbngdaaWayP
import Derived.Test.YtadekfjgdbngdaaBG
namespace Go.Proofs.Ytadekfjgdbngdaa
open Go Go.RowKit

theorem tAll_eq : tAll = { data := #[120, 32, 45, 62, 32, 97, 114, 103, 117, 109, 101, 110, 116, 32, 111, 102, 32, 102, 32, 45, 62, 32, 104, 101, 97, 112, 32, 45, 62, 32, 63] } := by rfl

theorem Row.newN {w : World} {cs : Array Value} {t : TypeId} {sz n b : Nat} {xs : List Value} (hb : b = w.heap.size) (hs : cs.toList = xs) (hn : xs.length = n * sz) : Row (w.alloc (.cells cs t)) sz (some ⟨b, 0, none⟩) n xs :=
  ⟨hn, fun _ => ⟨b, 0, rfl, fun j _ => by rw [Nat.zero_add, cell_new hb, ← hs, Array.getElem?_toList]⟩⟩

set_option maxRecDepth 20000 in
set_option maxHeartbeats 4000000 in
theorem alive_any (w : World) : Calls Try.prog 6 #[] w (Ret w (IsB True)) := by
  go_enter Try.func6, Try.ntmps6
  go_wp2_with fail
  generalize hW : World.alloc (World.alloc (World.alloc w _) _) _ = W
  have hL : Row W 5 (some ⟨w.heap.size, 0, none⟩) bLocs.length (bLocs.flatMap LocD.cells) := by
    subst hW; exact ((Row.newN rfl rfl rfl).ext (below_a1 _ _)).ext (below_a1 _ _)
  have hE : Row W 3 (some ⟨w.heap.size + 1, 0, none⟩) bEdges.length (bEdges.flatMap EdgeD.cells) := by
    subst hW; exact (Row.newN (by simp) rfl rfl).ext (below_a1 _ _)
  have hb : Below w.heap.size w W := by subst hW; exact ((below_a1 _ _).alloc (by simp) _).alloc (by simp; omega) _
  have kG : Blk W (w.heap.size + 1 + 1) #[.slice (some ⟨w.heap.size, 0, none⟩) 5 5, .slice (some ⟨w.heap.size + 1, 0, none⟩) 4 4, .int .i64 0] 35 := by subst hW; exact Blk.new (by simp)
  have HL := Lib.hid hL
  have HE := Lib.hid hE
  have HB := Lib.hid hb
  have KG := Lib.hid kG
  clear hW hL hE hb kG
  refine (way_any _ _ 5 4 0 2 bLocs bEdges 0 bC W HL.out HE.out bFit (fun _ => bCome)).mono ?_
  rintro e w1 ⟨v, rfl, hb1, hr1⟩
  rcases hr1 with ⟨hno, _⟩ | ⟨_, t, ht, htn, bs, hbs, hcase⟩
  · exact absurd ⟨bRight, by decide, by decide⟩ hno
  obtain rfl : t = 2 := by omega
  obtain rfl := hbs.unique bEsc
  rcases hcase with ⟨h, _⟩ | ⟨_, out, x, hway, rfl, a1, c1, rfl, hown1⟩
  · exact absurd rfl h
  obtain rfl := hway.unique bWay
  have kg1 := KG.out.ext hb1
  have q0 := kg1.cell 0
  have q1 := kg1.cell 1
  have q2 := kg1.cell 2
  simp only [List.getElem?_toArray, List.getElem?_cons_zero, List.getElem?_cons_succ] at q0 q1 q2
  have HB1 := Lib.hid hb1
  have Hown1 := Lib.hid hown1
  have Kg1 := Lib.hid kg1
  clear hb1 hown1 kg1 hway ht htn hbs
  go_wp2_with fail
  refine (way_any _ _ 5 4 0 3 bLocs bEdges 0 bC w1 (HL.out.ext HB1.out) (HE.out.ext HB1.out) bFit (fun _ => bCome)).mono ?_
  rintro e w2 ⟨v, rfl, hb2, hr2⟩
  rcases hr2 with ⟨hno, _⟩ | ⟨_, t, ht, htn, bs, hbs, hcase⟩
  · exact absurd ⟨bRight, by decide, by decide⟩ hno
  obtain rfl : t = 3 := by omega
  obtain rfl := hbs.unique bEsc
  rcases hcase with ⟨_, rfl⟩ | ⟨h, _⟩
  rotate_left
  · exact absurd h (by decide)
  have kg2 := Kg1.out.ext hb2
  have q0 := kg2.cell 0
  have q1 := kg2.cell 1
  have q2 := kg2.cell 2
  simp only [List.getElem?_toArray, List.getElem?_cons_zero, List.getElem?_cons_succ] at q0 q1 q2
  have HB2 := Lib.hid (HB1.out.trans (hb2.mono HB1.out.size))
  have Hown1 := Lib.hid (Hown1.out.ext hb2)
  have Kg2 := Lib.hid kg2
  clear hb2 kg2 Kg1 KG ht htn hbs
  go_wp2_with fail
  refine (ints_any a1 (some ⟨w2.heap.size, 0, none⟩) c1 3 [2, 3, 0] [2, 3, 0] _ (Hown1.out.alloc _).row (Row.newN rfl rfl rfl) (by decide)).mono ?_
  rintro e w3 ⟨v, rfl, hb3, b, rfl, hbt⟩
  obtain rfl : b = true := hbt.2 rfl
  clear hbt
  have hb23 := (below_a1 _ _).trans (hb3.mono (by simp))
  have HB3 := Lib.hid (HB2.out.trans (hb23.mono HB2.out.size))
  have kg3 := Kg2.out.ext hb23
  have q0 := kg3.cell 0
  have q1 := kg3.cell 1
  have q2 := kg3.cell 2
  simp only [List.getElem?_toArray, List.getElem?_cons_zero, List.getElem?_cons_succ] at q0 q1 q2
  have Kg3 := Lib.hid kg3
  clear hb23 hb3 kg3 Kg2 HB2 Hown1
  go_wp2_with fail
  have htext := text1_any (some ⟨w.heap.size, 0, none⟩) (some ⟨w.heap.size + 1, 0, none⟩) 5 4 w3.heap.size 4 (w3.alloc (.cells #[.int .i64 2, .int .i64 4, .int .i64 0, .int .i64 9] 3)) ((HL.out.ext HB3.out).ext (below_a1 _ _)) (Row.newN rfl rfl rfl)
  rw [tAll_eq] at htext
  refine htext.mono ?_
  rintro e w4 ⟨v, rfl, hb4, rfl⟩
  have hb34 := (below_a1 _ _).trans (hb4.mono (by simp))
  have HB4 := Lib.hid (HB3.out.trans (hb34.mono HB3.out.size))
  have kg4 := Kg3.out.ext hb34
  have q0 := kg4.cell 0
  have q1 := kg4.cell 1
  have q2 := kg4.cell 2
  simp only [List.getElem?_toArray, List.getElem?_cons_zero, List.getElem?_cons_succ] at q0 q1 q2
  clear hb34 hb4 kg4 Kg3 HB3 htext
  go_wp2_with fail
  refine (of1_any (some ⟨w.heap.size, 0, none⟩) (some ⟨w.heap.size + 1, 0, none⟩) 5 4 w4 (HL.out.ext HB4.out)).mono ?_
  rintro e w5 ⟨v, rfl, hb5, a5, c5, rfl, hown5⟩
  have HB5 := Lib.hid (HB4.out.trans (hb5.mono HB4.out.size))
  have Hown5 := Lib.hid hown5
  clear hb5 hown5 HB4
  go_wp2_with fail
  refine (ints_any a5 (some ⟨w5.heap.size, 0, none⟩) c5 1 [2] [2] _ (Hown5.out.alloc _).row (Row.newN rfl rfl rfl) (by decide)).mono ?_
  rintro e w6 ⟨v, rfl, hb6, b, rfl, hbt⟩
  obtain rfl : b = true := hbt.2 rfl
  have hb56 := (below_a1 _ _).trans (hb6.mono (by simp))
  have HB6 := Lib.hid (HB5.out.trans (hb56.mono HB5.out.size))
  clear hbt hb56 hb6
  go_wp2
  go_ret
  exact ⟨_, rfl, HB.out.trans (HB6.out.mono HB.out.size), isB_true trivial⟩
end Go.Proofs.Ytadekfjgdbngdaa
