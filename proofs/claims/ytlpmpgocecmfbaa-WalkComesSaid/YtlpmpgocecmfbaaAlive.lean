/- The live question. -/
import Derived.Test.YtlpmpgocecmfbaaInts
namespace Go.Proofs.Ytlpmpgocecmfbaa
open Go Go.RowKit

def aLocs : List LocD := [⟨{ data := #[104, 101, 97, 112] }, { data := #[] }, 0, 0, 0⟩, ⟨{ data := #[114, 101, 115, 117, 108, 116] }, { data := #[] }, 0, 0, 0⟩, ⟨{ data := #[118, 97, 114] }, { data := #[112] }, 0, 0, 0⟩,
  ⟨{ data := #[118, 97, 114] }, { data := #[120] }, 0, 0, 0⟩, ⟨{ data := #[110, 101, 119] }, { data := #[] }, 0, 0, 1⟩, ⟨{ data := #[118, 97, 114] }, { data := #[121] }, 0, 0, 0⟩]
def aE0 : EdgeD := ⟨3, 0, -1⟩
def aE1 : EdgeD := ⟨2, 3, 0⟩
def aE2 : EdgeD := ⟨4, 5, -1⟩
def aE3 : EdgeD := ⟨2, 1, 2⟩
def aEdges : List EdgeD := [aE0, aE1, aE2, aE3]
def aC : Nat → List Int
  | 0 => [0, -2, 0, -1, -2, -2]
  | 1 => [-2, 0, 2, -2, -2, -2]
  | 2 => [-2, -2, 0, -2, -2, -2]
  | 3 => [-2, -2, 0, 0, -2, -2]
  | 4 => [-2, -2, -2, -2, 0, -2]
  | _ => [-2, -2, -2, -2, -1, 0]
def aBs : List Bool := [false, false, false, true, true, false]

theorem aFit : Fit aLocs aEdges 2 := by
  refine ⟨?_, by decide, by decide, by decide, by decide⟩
  intro e he; simp [aEdges] at he; rcases he with rfl | rfl | rfl | rfl <;> decide

theorem aRight : RightG aLocs aEdges 1 where
  two := by decide
  most := by decide
  heap := by intro l hl; simp [aLocs] at hl; subst hl; simp [ByteArray.toList, heapL, ByteArray.toList.loop, ByteArray.size, ByteArray.get!]
  result := by intro l hl; simp [aLocs] at hl; subst hl; simp [ByteArray.toList, resultL, ByteArray.toList.loop, ByteArray.size, ByteArray.get!]
  p0 := by decide
  pn := by decide
  loops := by
    intro i l hl
    have : l ∈ aLocs := List.mem_of_getElem? hl
    simp [aLocs] at this; rcases this with rfl | rfl | rfl | rfl | rfl | rfl <;> decide
  edges := by
    intro i e he
    have : e ∈ aEdges := List.mem_of_getElem? he
    simp [aEdges] at this; rcases this with rfl | rfl | rfl | rfl <;> (constructor <;> decide)

theorem aClosed (r : Nat) (hr : r < 6) : Closed aEdges (aC r) := by
  intro e he d hd hd2
  simp [aEdges] at he
  have : r = 0 ∨ r = 1 ∨ r = 2 ∨ r = 3 ∨ r = 4 ∨ r = 5 := by omega
  rcases this with rfl | rfl | rfl | rfl | rfl | rfl <;> rcases he with rfl | rfl | rfl | rfl <;> simp [aC, aE0, aE1, aE2, aE3] at hd ⊢ <;> omega

theorem aCome : ComeAll aEdges aLocs.length aC := by
  intro r hr
  have hr : r < 6 := hr
  refine IsCome.of ?_ ?_ ?_ (aClosed r hr)
  · have : r = 0 ∨ r = 1 ∨ r = 2 ∨ r = 3 ∨ r = 4 ∨ r = 5 := by omega
    rcases this with rfl | rfl | rfl | rfl | rfl | rfl <;> rfl
  · intro i v hv hne
    have hi : i < 6 := by
      have := get_lt hv
      have e : (aC r).length = 6 := by have : r = 0 ∨ r = 1 ∨ r = 2 ∨ r = 3 ∨ r = 4 ∨ r = 5 := by omega
                                       rcases this with rfl | rfl | rfl | rfl | rfl | rfl <;> rfl
      omega
    have w3 : ∀ t, t = 0 → Way aEdges t 3 (-1) := fun t h => by subst h; exact Way.cons (i := 0) (v := 0) aE0 (by simp [aEdges]) rfl (by decide) Way.nil
    have w2 : Way aEdges 0 2 0 := Way.cons (i := 3) (v := -1) aE1 (by simp [aEdges]) rfl (by decide) (w3 0 rfl)
    have w1 : Way aEdges 1 2 2 := Way.cons (i := 1) (v := 0) aE3 (by simp [aEdges]) rfl (by decide) Way.nil
    have w33 : Way aEdges 3 2 0 := Way.cons (i := 3) (v := 0) aE1 (by simp [aEdges]) rfl (by decide) Way.nil
    have w5 : Way aEdges 5 4 (-1) := Way.cons (i := 5) (v := 0) aE2 (by simp [aEdges]) rfl (by decide) Way.nil
    have w30 := w3 0 rfl
    have hr' : r = 0 ∨ r = 1 ∨ r = 2 ∨ r = 3 ∨ r = 4 ∨ r = 5 := by omega
    have hi' : i = 0 ∨ i = 1 ∨ i = 2 ∨ i = 3 ∨ i = 4 ∨ i = 5 := by omega
    rcases hr' with rfl | rfl | rfl | rfl | rfl | rfl <;> rcases hi' with rfl | rfl | rfl | rfl | rfl | rfl <;> simp [aC] at hv <;> subst hv <;> first | exact absurd rfl hne | assumption | exact Way.nil
  · have : r = 0 ∨ r = 1 ∨ r = 2 ∨ r = 3 ∨ r = 4 ∨ r = 5 := by omega
    rcases this with rfl | rfl | rfl | rfl | rfl | rfl <;> exact ⟨0, rfl, by decide, by decide⟩

theorem aEsc : IsEsc aLocs aC aBs := by
  refine ⟨rfl, fun i => ⟨fun h => ?_, fun h => ?_⟩⟩
  · have hi : i < 6 := get_lt h
    have hi' : i = 0 ∨ i = 1 ∨ i = 2 ∨ i = 3 ∨ i = 4 ∨ i = 5 := by omega
    rcases hi' with rfl | rfl | rfl | rfl | rfl | rfl <;> simp [aBs] at h
    · exact .out (r := 0) (by decide) (by decide) (by decide) rfl (.inl (by decide))
    · exact .out (r := 5) (by decide) (by decide) (by decide) rfl (.inr (by decide))
  · have key : ∀ r l, r < 6 → l < 6 → (aC r)[l]? = some (-1) → l = 3 ∨ l = 4 := by
      intro r l hr hl hc
      have hr' : r = 0 ∨ r = 1 ∨ r = 2 ∨ r = 3 ∨ r = 4 ∨ r = 5 := by omega
      have hi' : l = 0 ∨ l = 1 ∨ l = 2 ∨ l = 3 ∨ l = 4 ∨ l = 5 := by omega
      rcases hr' with rfl | rfl | rfl | rfl | rfl | rfl <;> rcases hi' with rfl | rfl | rfl | rfl | rfl | rfl <;> simp [aC] at hc ⊢
    have h34 : i = 3 ∨ i = 4 := by
      cases h with
      | out h2 hl hr hc ho => exact key _ _ hr hl hc
      | via h2 hl hr hc ho => exact key _ _ hr hl hc
    rcases h34 with rfl | rfl <;> rfl

theorem Row.newN {w : World} {cs : Array Value} {t : TypeId} {sz n b : Nat} {xs : List Value} (hb : b = w.heap.size) (hs : cs.toList = xs) (hn : xs.length = n * sz) : Row (w.alloc (.cells cs t)) sz (some ⟨b, 0, none⟩) n xs :=
  ⟨hn, fun _ => ⟨b, 0, rfl, fun j _ => by rw [Nat.zero_add, cell_new hb, ← hs, Array.getElem?_toList]⟩⟩

set_option maxHeartbeats 2000000 in
theorem alive_any (w : World) : Calls Try.prog 9 #[] w (Ret w (IsB True)) := by
  go_enter Try.func9, Try.ntmps9
  go_wp2_with fail
  generalize hW : World.alloc (World.alloc _ _) _ = W
  have hL : Row W 5 (some ⟨w.heap.size, 0, none⟩) aLocs.length (aLocs.flatMap LocD.cells) := by
    subst hW; exact ((Row.newN rfl rfl rfl).ext (below_a1 _ _)).ext (below_a1 _ _)
  have hE : Row W 3 (some ⟨w.heap.size + 1, 0, none⟩) aEdges.length (aEdges.flatMap EdgeD.cells) := by
    subst hW; exact (Row.newN (by simp) rfl rfl).ext (below_a1 _ _)
  have hb : Below w.heap.size w W := by subst hW; exact ((below_a1 _ _).alloc (by simp) _).alloc (by simp; omega) _
  have kG : Blk W (w.heap.size + 1 + 1) #[.slice (some ⟨w.heap.size, 0, none⟩) 6 6, .slice (some ⟨w.heap.size + 1, 0, none⟩) 4 4, .int .i64 1] 35 := by subst hW; exact Blk.new (by simp)
  have HL := Lib.hid hL
  have HE := Lib.hid hE
  have HB := Lib.hid hb
  have KG := Lib.hid kG
  clear hW hL hE hb kG
  refine (walkCome_any _ _ 6 4 1 0 aLocs aEdges 2 W HL.out HE.out aFit).mono ?_
  rintro e w1 ⟨v, rfl, hb1, hr1⟩
  rcases hr1 with ⟨hno, _⟩ | ⟨_, x, rfl, l, hl, a1, c1, rfl, hown1, -⟩
  · exact absurd ⟨aRight, by decide, by decide⟩ hno
  obtain rfl := hl.unique (aCome 0 (by decide))
  have kg1 := KG.out.ext hb1
  have q0 := kg1.cell 0
  have q1 := kg1.cell 1
  have q2 := kg1.cell 2
  simp only [List.getElem?_toArray, List.getElem?_cons_zero, List.getElem?_cons_succ] at q0 q1 q2
  have HB1 := Lib.hid hb1
  have Hown1 := Lib.hid hown1
  have Kg1 := Lib.hid kg1
  clear hb1 hown1 kg1
  go_wp2_with fail
  refine (walkEscs_any _ _ 6 4 1 aLocs aEdges 2 aC w1 (HL.out.ext HB1.out) (HE.out.ext HB1.out) aFit (fun _ => aCome)).mono ?_
  rintro e w2 ⟨v, rfl, hb2, hr2⟩
  rcases hr2 with ⟨hno, _⟩ | ⟨_, bs, x, hbs, rfl, a2, c2, rfl, hown2⟩
  · exact absurd aRight hno
  obtain rfl := hbs.unique aEsc
  have kg2 := Kg1.out.ext hb2
  have q0 := kg2.cell 0
  have q1 := kg2.cell 1
  have q2 := kg2.cell 2
  simp only [List.getElem?_toArray, List.getElem?_cons_zero, List.getElem?_cons_succ] at q0 q1 q2
  have HB2 := Lib.hid (HB1.out.trans (hb2.mono HB1.out.size))
  have Hown1 := Lib.hid (Hown1.out.ext hb2)
  have Hown2 := Lib.hid hown2
  have Kg2 := Lib.hid kg2
  clear hb2 hown2 kg2 Kg1 KG
  go_wp2_with fail
  refine (walkLeaks_any _ _ 6 4 1 aLocs aEdges 2 aC w2 (HL.out.ext HB2.out) (HE.out.ext HB2.out) aFit (fun _ => aCome)).mono ?_
  rintro e w3 ⟨v, rfl, hb3, hr3⟩
  rcases hr3 with ⟨hno, _⟩ | ⟨_, bs, x, y, hbs, rfl, ⟨a3, c3, rfl, hown3⟩, a4, c4, rfl, hown4⟩
  · exact absurd aRight hno
  obtain rfl := hbs.unique aEsc
  have HB3 := Lib.hid (HB2.out.trans (hb3.mono HB2.out.size))
  have Hown1 := Lib.hid (Hown1.out.ext hb3)
  have Hown2 := Lib.hid (Hown2.out.ext hb3)
  have Hown3 := Lib.hid hown3
  have Hown4 := Lib.hid hown4
  clear hb3 hown3 hown4 Kg2 HB1 HB2 HL HE
  go_wp2_with fail
  refine (walkCome_any none none 0 0 0 0 [] [] 0 _ (Row.nil _ _ _) (Row.nil _ _ _) ⟨by simp, by decide, by decide, by decide, by decide⟩).mono ?_
  rintro e w4 ⟨v, rfl, hb4, hr4⟩
  rcases hr4 with ⟨_, rfl⟩ | ⟨⟨hno, _⟩, _⟩
  rotate_left
  · exact absurd hno.two (by decide)
  have HS : Hid (Below w3.heap.size w3 (w3.alloc (.cells #[.string { data := #[] }, .slice a3 1 c3, .slice a4 1 c4] 43))) := below_a1 _ _
  have kS : Blk (w3.alloc (.cells #[.string { data := #[] }, .slice a3 1 c3, .slice a4 1 c4] 43)) w3.heap.size #[.string { data := #[] }, .slice a3 1 c3, .slice a4 1 c4] 43 := Blk.new rfl
  have hb34 := HS.out.trans (hb4.mono HS.out.size)
  have HB4 := Lib.hid (HB3.out.trans (hb34.mono HB3.out.size))
  have Hown1 := Lib.hid (Hown1.out.ext hb34)
  have Hown2 := Lib.hid (Hown2.out.ext hb34)
  have Hown3 := Lib.hid (Hown3.out.ext hb34)
  have Hown4 := Lib.hid (Hown4.out.ext hb34)
  have kS4 := kS.ext hb4
  have s1 := kS4.cell 1
  have s2 := kS4.cell 2
  simp only [List.getElem?_toArray, List.getElem?_cons_zero, List.getElem?_cons_succ] at s1 s2
  have KS := Lib.hid kS4
  clear hb34 kS kS4 HS hb4 HB3
  go_wp2_with fail
  refine (ints_any a1 (some ⟨w4.heap.size, 0, none⟩) c1 6 (aC 0) [0, -2, 0, -1, -2, -2] _ (Hown1.out.alloc _).row (Row.newN rfl rfl rfl) (by decide)).mono ?_
  rintro e w5 ⟨v, rfl, hb5, b, rfl, hbt⟩
  obtain rfl : b = true := hbt.2 rfl
  clear hbt
  have hb45 := (below_a1 _ _).trans (hb5.mono (by simp))
  have HB5 := Lib.hid (HB4.out.trans (hb45.mono HB4.out.size))
  have Hown2 := Lib.hid (Hown2.out.ext hb45)
  have Hown3 := Lib.hid (Hown3.out.ext hb45)
  have Hown4 := Lib.hid (Hown4.out.ext hb45)
  have kS5 := KS.out.ext hb45
  have s1 := kS5.cell 1
  have s2 := kS5.cell 2
  simp only [List.getElem?_toArray, List.getElem?_cons_zero, List.getElem?_cons_succ] at s1 s2
  have KS := Lib.hid kS5
  clear hb45 hb5 kS5 HB4
  go_wp2_with fail
  refine (ints_any a2 (some ⟨w5.heap.size, 0, none⟩) c2 2 (trues aBs aBs.length) [3, 4] _ (Hown2.out.alloc _).row (Row.newN rfl rfl rfl) (by decide)).mono ?_
  rintro e w6 ⟨v, rfl, hb6, b, rfl, hbt⟩
  obtain rfl : b = true := hbt.2 rfl
  clear hbt
  have hb56 := (below_a1 _ _).trans (hb6.mono (by simp))
  have HB6 := Lib.hid (HB5.out.trans (hb56.mono HB5.out.size))
  have Hown3 := Lib.hid (Hown3.out.ext hb56)
  have Hown4 := Lib.hid (Hown4.out.ext hb56)
  have kS6 := KS.out.ext hb56
  have s1 := kS6.cell 1
  have s2 := kS6.cell 2
  simp only [List.getElem?_toArray, List.getElem?_cons_zero, List.getElem?_cons_succ] at s1 s2
  have KS := Lib.hid kS6
  clear hb56 hb6 kS6 HB5
  go_wp2_with fail
  refine (ints_any a3 (some ⟨w6.heap.size, 0, none⟩) c3 1 (heapsOf aC aBs aLocs.length (1 : Int).toNat) [0] _ (Hown3.out.alloc _).row (Row.newN rfl rfl rfl) (by decide)).mono ?_
  rintro e w7 ⟨v, rfl, hb7, b, rfl, hbt⟩
  obtain rfl : b = true := hbt.2 rfl
  clear hbt
  have hb67 := (below_a1 _ _).trans (hb7.mono (by simp))
  have HB7 := Lib.hid (HB6.out.trans (hb67.mono HB6.out.size))
  have Hown4 := Lib.hid (Hown4.out.ext hb67)
  have kS7 := KS.out.ext hb67
  have s1 := kS7.cell 1
  have s2 := kS7.cell 2
  simp only [List.getElem?_toArray, List.getElem?_cons_zero, List.getElem?_cons_succ] at s1 s2
  have KS := Lib.hid kS7
  clear hb67 hb7 kS7 HB6
  go_wp2_with fail
  refine (ints_any a4 (some ⟨w7.heap.size, 0, none⟩) c4 1 (resultsOf aC (1 : Int).toNat) [2] _ (Hown4.out.alloc _).row (Row.newN rfl rfl rfl) (by decide)).mono ?_
  rintro e w8 ⟨v, rfl, hb8, b, rfl, hbt⟩
  obtain rfl : b = true := hbt.2 rfl
  clear hbt
  have hb78 := (below_a1 _ _).trans (hb8.mono (by simp))
  have HB8 := Lib.hid (HB7.out.trans (hb78.mono HB7.out.size))
  clear hb78 hb8 HB7
  go_wp2
  go_ret
  exact ⟨_, rfl, HB.out.trans (HB8.out.mono HB.out.size), isB_true trivial⟩
end Go.Proofs.Ytlpmpgocecmfbaa
