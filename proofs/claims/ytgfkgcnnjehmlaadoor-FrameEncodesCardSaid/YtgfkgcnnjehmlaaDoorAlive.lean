/- The live question of the frames. -/
import Derived.Test.YtgfkgcnnjehmlaaDoorFeed
import Derived.Test.YtgfkgcnnjehmlaaDoorEnc
namespace Go.Proofs.YtgfkgcnnjehmlaaDoor
open Go Go.RowKit

theorem Row.newN {w : World} {cs : Array Value} {t : TypeId} {sz n b : Nat} {xs : List Value} (hb : b = w.heap.size) (hs : cs.toList = xs) (hn : xs.length = n * sz) : Row (w.alloc (.cells cs t)) sz (some ⟨b, 0, none⟩) n xs :=
  ⟨hn, fun _ => ⟨b, 0, rfl, fun j _ => by rw [Nat.zero_add, cell_new hb, ← hs, Array.getElem?_toList]⟩⟩

def aliveL : List UInt8 := [120, 67, 111, 110, 116, 101, 110, 116, 45, 76, 101, 110, 103, 116, 104, 58, 32, 48, 51, 13, 10, 67, 111, 110, 116, 101, 110, 116, 45, 76, 101, 110, 103, 116, 104, 58, 32, 50, 13, 10, 13, 10, 104, 105, 67, 111, 110]
theorem head2 : headL 2 = [67, 111, 110, 116, 101, 110, 116, 45, 76, 101, 110, 103, 116, 104, 58, 32, 50, 13, 10, 13, 10] := by
  rw [headL, dec_small (by decide)]; rfl
theorem head0 : headL 0 = [67, 111, 110, 116, 101, 110, 116, 45, 76, 101, 110, 103, 116, 104, 58, 32, 48, 13, 10, 13, 10] := by
  rw [headL, dec_small (by decide)]; rfl
theorem num03 : numOf [48, 51] = none := by
  unfold numOf
  have e : val 0 [48, 51] = 3 := rfl
  rw [e, dec_small (by decide), if_neg]
  intro h
  exact absurd h.2 (by decide)
theorem aliveFed : Fed aliveL [[104, 105]] 21 [67, 111, 110] := by
  have e2 : ([104, 105] : List UInt8).length = 2 := rfl
  have h1 : Fed (headL 2 ++ ([104, 105] ++ [67, 111, 110])) [[104, 105]] 0 [67, 111, 110] := .got (by rw [← e2]; exact beg_frame (by decide)) (.more rfl)
  have h2 := Fed.ahead (a := [111, 110, 116, 101, 110, 116, 45, 76, 101, 110, 103, 116, 104, 58, 32, 48, 51, 13, 10]) (by decide) h1
  rw [head2] at h2
  have h3 := Fed.lost (c := 67) (by
    have e : numOf (([67, 111, 110, 116, 101, 110, 116, 45, 76, 101, 110, 103, 116, 104, 58, 32, 48, 51, 13, 10, 67, 111, 110, 116, 101, 110, 116, 45, 76, 101, 110, 103, 116, 104, 58, 32, 50, 13, 10, 13, 10, 104, 105, 67, 111, 110] : List UInt8).drop 16 |>.takeWhile isFig) = none := num03
    unfold beg
    rw [if_pos (by rfl), if_neg (by decide)]
    simp only [List.cons_append, List.nil_append] at e ⊢
    rw [e]) h2
  exact Fed.lost (c := 120) (beg_noC (by decide)) h3

theorem aliveEnc : encL [[], [97, 98]] = [67, 111, 110, 116, 101, 110, 116, 45, 76, 101, 110, 103, 116, 104, 58, 32, 48, 13, 10, 13, 10, 67, 111, 110, 116, 101, 110, 116, 45, 76, 101, 110, 103, 116, 104, 58, 32, 50, 13, 10, 13, 10, 97, 98] := by
  have e2 : ([97, 98] : List UInt8).length = 2 := rfl
  have e0 : ([] : List UInt8).length = 0 := rfl
  simp only [encL]
  rw [e2, e0, head2, head0]; rfl

set_option maxHeartbeats 1000000 in
theorem alive_any (w : World) (hG : Glob w) : Calls Tryd.prog 9 #[] w (Ret w (IsB True)) := by
  have HG := Lib.hid hG
  clear hG
  go_enter Tryd.func9, Tryd.ntmps9
  go_wp2_with fail
  refine (new_any w).mono ?_
  rintro e w1 ⟨rfl, rfl⟩
  go_wp2_with fail
  have hb1 := below_a1 w (.cells #[.string { data := #[] }, .int .i64 0] 51)
  have hd : DecAt (w.alloc (.cells #[.string { data := #[] }, .int .i64 0] 51)) w.heap.size { data := #[] } 0 := Blk.new rfl
  have hG1 := HG.out.ext hb1
  refine (feed_any w.heap.size { data := #[] } ⟨aliveL.toArray⟩ 0 _ hG1 HG.out.size hd (by decide) (by decide)).mono ?_
  rintro e w2 ⟨v, rfl, bs, l, r, a, c, hfed, rfl, hown, hdec, hkeep⟩
  obtain ⟨rfl, rfl, hr⟩ := (show Fed aliveL [[104, 105]] 21 [67, 111, 110] from aliveFed).unique (by simpa using hfed)
  have hb2 : Below w.heap.size w w2 := hkeep.below hb1 (Nat.le_refl _) hb1.size
  have HB2 := Lib.hid hb2
  have HG2 := Lib.hid (HG.out.ext hb2)
  have Hown := Lib.hid hown
  have Hdec := Lib.hid hdec
  have hrs : r.size = 3 := by
    have := congrArg List.length hr
    simpa using this
  clear hb1 hd hG1 hfed hown hdec hkeep hb2 hr
  go_wp2_with fail
  refine (encode_any _ 2 [[], [97, 98]] _ (HG2.out.ext (below_a1 _ _)) (Row.newN rfl rfl rfl) (by decide)).mono ?_
  rintro e w3 ⟨v, rfl, hb3, hr3⟩
  rcases hr3 with ⟨-, rfl⟩ | ⟨hno, _⟩
  rotate_left
  · exact absurd (by decide) hno
  have hE : strV (encL [[], [97, 98]]) = .string { data := #[67, 111, 110, 116, 101, 110, 116, 45, 76, 101, 110, 103, 116, 104, 58, 32, 48, 13, 10, 13, 10, 67, 111, 110, 116, 101, 110, 116, 45, 76, 101, 110, 103, 116, 104, 58, 32, 50, 13, 10, 13, 10, 97, 98] } := by rw [aliveEnc]; rfl
  rw [hE]
  clear hE
  have hb23 := (below_a1 w2 (.cells #[.string { data := #[] }, .string { data := #[97, 98] }] 9)).trans (hb3.mono (by simp))
  have HB3 := Lib.hid (HB2.out.trans (hb23.mono HB2.out.size))
  have Hown3 := Hown.out.ext hb23
  have Hdec3 := Lib.hid (Hdec.out.ext hb23)
  obtain ⟨ab, ao, rfl, v1⟩ := Hown3.row.elem1 (l := [[104, 105]]) (i := 0) rfl
  have v2 : w3.cell? ⟨ab, ao, none⟩ = some (.string { data := #[104, 105] }) := v1
  clear hb23 hb3 v1
  go_wp2_with fail
  refine (lost_any w.heap.size r 21 _ Hdec3.out).mono ?_
  rintro e w4 ⟨rfl, rfl⟩
  go_wp2_with fail
  refine (left_any w.heap.size r 21 _ Hdec3.out).mono ?_
  rintro e w5 ⟨rfl, rfl⟩
  go_wp2
  go_ret
  exact ⟨_, rfl, HB3.out, isB_true trivial⟩
end Go.Proofs.YtgfkgcnnjehmlaaDoor
