/- There and back: the law, walked. -/
import Derived.Test.YtgfkgcnnjehmlaaDoorCut
namespace Go.Proofs.YtgfkgcnnjehmlaaDoor
open Go Go.RowKit

theorem drop_take1 {l : List UInt8} {k : Nat} {c : UInt8} (h : l[k]? = some c) : (l.drop k).take 1 = [c] := by
  obtain ⟨h1, h2⟩ := List.getElem?_eq_some_iff.1 h
  rw [List.drop_eq_getElem_cons h1, h2]; rfl
/-- what is no C -/
def noC (l : List UInt8) : List UInt8 := l.filter fun c => c != 67
theorem noC_take {l : List UInt8} {k : Nat} {c : UInt8} (h : l[k]? = some c) : noC (l.take (k + 1)) = noC (l.take k) ++ (if c != 67 then [c] else []) := by
  rw [noC, noC, List.take_add_one, h, List.filter_append]
  congr 1
  simp only [Option.toList_some, List.filter_cons, List.filter_nil]
theorem noC_len (l : List UInt8) : (noC l).length ≤ l.length := List.length_filter_le _ _
theorem noC_ne (l : List UInt8) : ∀ c ∈ noC l, c ≠ 67 := by
  intro c hc
  have := (List.mem_filter.1 hc).2
  simpa using this
theorem encL_total {l : List (List UInt8)} (h : ∀ x ∈ l, x.length ≤ 65536) : (encL l).length ≤ total l + 30 * l.length := by
  induction l with
  | nil => simp [encL, total]
  | cons x l ih =>
    have h1 := headL_len x.length (h x (by simp))
    have h3 := ih fun y hy => h y (by simp [hy])
    simp only [encL, total, List.length_append, List.length_cons]; omega

set_option maxRecDepth 100000 in
set_option maxHeartbeats 1000000 in
theorem back_any (al : Option Addr) (cl : Nat) (l : List (List UInt8)) (ahead : ByteArray) (w : World) (hG : Glob w) (hp : Row w 1 al l.length (l.map strV)) (hl : l.length ≤ maxLen) (hs : ∀ x ∈ l, x.length ≤ 140737488355328) (ha : ahead.size ≤ maxLen) :
    Calls Tryd.prog 6 #[.slice al l.length cl, .string ahead] w (Ret w (IsB True)) := by
  have HG := Lib.hid hG
  have HP := Lib.hid hp
  have hfits := fits_any al cl l w hp hl hs
  unfold maxLen at hl ha
  clear hG hp hs
  go_enter Tryd.func6, Tryd.ntmps6
  go_wp2_with fail
  refine hfits.mono ?_
  clear hfits
  rintro e w0 ⟨⟨ok, rfl, hok⟩, rfl⟩
  cases ok
  · clear hok
    go_wp2_with fail
    refine (alive_any w0 HG.out).mono ?_
    rintro e w2 ⟨v, rfl, hb2, b, rfl, hbt⟩
    obtain rfl : b = true := hbt.2 trivial
    go_wp2
    go_ret
    exact ⟨_, rfl, hb2, isB_true trivial⟩
  · obtain ⟨hl60, htot⟩ := hok rfl
    clear hok
    by_cases ha2 : ahead.size ≤ 2000
    · have ha3 : (ahead.size : Int) ≤ 2000 := by omega
      go_wp2_with fail
      go_loopw [6, 7] (fun z i wq => ∃ (k : Nat) (x : ByteArray), k ≤ ahead.size ∧ i = .int .i64 k ∧ z = .string x ∧ x.size ≤ k ∧ Hid (x.data.toList = noC (ahead.data.toList.take k) ∧ Below w0.heap.size w0 wq)) (fun _ i _ => ahead.size - (intOf i).toNat)
      case atStart => exact ⟨0, { data := #[] }, Nat.zero_le _, rfl, rfl, Nat.le_refl _, rfl, Below.refl _ _⟩
      case round =>
        obtain ⟨k, x, hk, rfl, rfl, hxk, hq⟩ := hrel
        have hxl : x.data.toList.length = x.size := rfl
        by_cases hlt : k < ahead.size
        · have g1 : ahead.data.toList[k]? = some ahead[k] := by rw [List.getElem?_eq_getElem (by simpa using hlt)]; rfl
          have hnx := noC_take g1
          have hkl : (k : Int) < ahead.size := by omega
          have hex : (ahead.extract k (k + 1)).data.toList = [ahead[k]] := by
            rw [Lib.extract_data, Nat.add_sub_cancel_left]; exact drop_take1 g1
          by_cases hC : ahead[k] = 67
          · have hne : ((ahead[k].toNat : Int) != 67) = false := by rw [hC]; rfl
            have e : noC (ahead.data.toList.take (k + 1)) = noC (ahead.data.toList.take k) := by rw [hnx, hC]; simp
            have He := Lib.hid e
            clear g1 hnx hex e hC
            go_wp2_with fail
            go_roundw
            case rel => exact ⟨k + 1, x, by omega, by go_num, rfl, by omega, by rw [He.out]; exact hq.out.1, hq.out.2⟩
            case measure => simp [intOf]; omega
          · have hne : ((ahead[k].toNat : Int) != 67) = true := by
              rw [bne_iff_ne]; intro he
              have h2 : ahead[k].toNat = (67 : UInt8).toNat := by have : (67 : UInt8).toNat = 67 := rfl; omega
              exact hC (UInt8.toNat_inj.1 h2)
            have e : noC (ahead.data.toList.take (k + 1)) = noC (ahead.data.toList.take k) ++ [ahead[k]] := by rw [hnx, if_pos (by simpa using hC)]
            have hcat : (x ++ ahead.extract k (k + 1)).data.toList = noC (ahead.data.toList.take (k + 1)) := by
              rw [e, ← hex, ← hq.out.1]; simp
            have hsz : (ahead.extract k (k + 1)).size = 1 := by
              exact congrArg List.length hex
            have Hcat := Lib.hid hcat
            clear g1 hnx hex e hC hcat
            go_wp2_with fail
            go_roundw
            case rel => exact ⟨k + 1, x ++ ahead.extract k (k + 1), by omega, by go_num, by simp, by simp; omega, Hcat.out, hq.out.2⟩
            case measure => simp [intOf]; omega
        · obtain rfl : k = ahead.size := by omega
          have hall : ∀ y ∈ l, y.length ≤ 65536 := fun y hy => by have := total_mem hy; omega
          have hxd := hq.out.1
          rw [List.take_of_length_le (show ahead.data.toList.length ≤ ahead.size from Nat.le_refl _)] at hxd
          have Hxd := Lib.hid hxd
          have Hall := Lib.hid hall
          have hB := hq.out.2
          have henl := encL_total hall
          clear hxd hall hq
          go_wp2_with fail
          refine (encode_any al cl l wr (HG.out.ext hB) (HP.out.ext hB) (by omega)).mono ?_
          rintro e w1 ⟨v, rfl, hb1, henc⟩
          rcases henc with ⟨-, rfl⟩ | ⟨hno, _⟩
          rotate_left
          · exact absurd Hall.out hno
          obtain ⟨z, hz⟩ : ∃ z : ByteArray, z = ⟨(encL l).toArray⟩ := ⟨_, rfl⟩
          have hzs : z.size = (encL l).length := by rw [hz]; simp [ByteArray.size]
          have hzd : z.data.toList = encL l := by rw [hz]
          have hsz : strV (encL l) = .string z := by rw [hz]; rfl
          rw [hsz]
          have Hzd := Lib.hid hzd
          have hB1 := hB.trans (hb1.mono hB.size)
          clear hz hzd hsz hb1 hB
          have HB1 := Lib.hid hB1
          have hG1 := HG.out.ext hB1
          have HG1 := Lib.hid hG1
          clear hB1 hG1
          go_wp2_with fail
          refine (new_any w1).mono ?_
          rintro e w2 ⟨rfl, rfl⟩
          have hb1 := below_a1 w1 (.cells #[.string { data := #[] }, .int .i64 0] 51)
          have hd1 : DecAt (w1.alloc (.cells #[.string { data := #[] }, .int .i64 0] 51)) w1.heap.size { data := #[] } 0 := Blk.new rfl
          have hsz1 := HG1.out.size
          go_wp2_with fail
          refine (feed_any w1.heap.size { data := #[] } z 0 _ (HG1.out.ext hb1) HG1.out.size hd1 (by show 0 + z.size ≤ _; omega) (by decide)).mono ?_
          rintro e w2 ⟨v, rfl, xs, ld, rd, ax, cx, hfed, rfl, hx, hd2, hk2⟩
          obtain ⟨hxs, rfl, hrd⟩ := (Fed.enc Hall.out).unique (by simpa [Hzd.out] using hfed)
          rw [hxs] at hx
          rw [hxs]
          have hb2 : Below w1.heap.size w1 w2 := hk2.below hb1 (Nat.le_refl _) hb1.size
          have hrs : rd.size = 0 := by have := congrArg List.length hrd; simpa using this
          have HB2 := Lib.hid (HB1.out.trans (hb2.mono HB1.out.size))
          have hsz2 := hd2.lt
          have hbs1 := HB1.out.size
          have Hx := Lib.hid hx
          have Hd2 := Lib.hid hd2
          clear hxs hfed hk2 hb1 hd1 hb2 hx hd2 hrd
          go_wp2_with fail
          refine (lost_any w1.heap.size rd 0 w2 Hd2.out).mono ?_
          rintro e w3 ⟨rfl, hw3⟩
          subst hw3
          go_wp2_with fail
          refine (new_any _).mono ?_
          rintro e w4 ⟨rfl, rfl⟩
          have hinv : CutInv w0 (w3.alloc (.cells #[.string { data := #[] }, .int .i64 0] 51)) w1.heap.size w3.heap.size (w3.heap.size + 1) rd 0 l ax cx { data := #[] } 0 [] none 0 := by
            refine ⟨HB2.out.alloc HB2.out.size _, by have := Hd2.out.alloc (.cells #[.string { data := #[] }, .int .i64 0] 51); rw [Nat.zero_add] at this; exact this, Blk.new rfl, (Hx.out.mono (by simp; omega)).alloc _, Own.nil _ _ _ _, fun j hj => ?_, hbs1, hsz2, by omega, by simp⟩
            have := row_lt Hx.out hj
            simp at this
            omega
          have Hinv := Lib.hid hinv
          have hG4 := HG.out.ext hinv.below
          have HG4 := Lib.hid hG4
          have hzz : (x ++ z).data.toList = noC ahead.data.toList ++ encL l := by rw [← Hxd.out, ← Hzd.out]; simp
          have hzs2 : (x ++ z).size = x.size + z.size := by simp
          have hb3 : 3 ≤ w3.heap.size := by have := HG.out.size; have := HB2.out.size; omega
          have Hzz := Lib.hid hzz
          clear hinv Hx Hd2 HB2 hG4 hzz
          go_wp2_with fail
          refine (feed_any w3.heap.size { data := #[] } (x ++ z) 0 _ HG4.out hb3 Hinv.out.c (by show 0 + (x ++ z).size ≤ _; omega) (by decide)).mono ?_
          rintro e w5 ⟨v, rfl, ys, lc, rc, ay, cy, hfed, rfl, hy, hdc, hk5⟩
          have hFa := Fed.ahead (noC_ne ahead.data.toList) (Fed.enc Hall.out)
          have hfed2 : Fed (noC ahead.data.toList ++ encL l) ys lc rc.data.toList := by rw [← Hzz.out]; exact hfed
          obtain ⟨hys, hlc, hrc⟩ := hFa.unique hfed2
          have hrcs : rc.size = 0 := congrArg List.length hrc
          have hnx : (noC ahead.data.toList).length = x.size := by rw [← Hxd.out]; rfl
          rw [hys] at hy
          rw [hys]
          have Hinv5 := Lib.hid (Hinv.out.feed hk5 hdc)
          have Hy := Lib.hid hy
          have hlc2 : lc = x.size := by omega
          clear hFa hys hfed hfed2 hrc hdc hk5 hy hnx Hinv hlc
          go_wp2_with fail
          refine (alive_any w5 (HG.out.ext Hinv5.out.below)).mono ?_
          rintro e w7 ⟨v, rfl, hb7, bb, rfl, hbt⟩
          obtain rfl : bb = true := hbt.2 trivial
          have Hinv7 := Lib.hid (Hinv5.out.ext hb7)
          have Hy7 := Lib.hid (Hy.out.ext hb7)
          clear hb7 Hinv5 Hy hbt
          go_wp2_with fail
          refine (strings_any ax al cx cl l l w7 Hinv7.out.x.row (HP.out.ext Hinv7.out.below) (by omega)).mono ?_
          rintro e w8 ⟨v, rfl, hb8, bb, rfl, hbt⟩
          obtain rfl : bb = true := hbt.2 rfl
          have Hinv8 := Lib.hid (Hinv7.out.ext hb8)
          have Hy8 := Lib.hid (Hy7.out.ext hb8)
          clear hb8 Hinv7 Hy7 hbt
          go_wp2_with fail
          refine (left_any w1.heap.size rd 0 _ Hinv8.out.d).mono ?_
          rintro e w9 ⟨rfl, rfl⟩
          go_wp2_with fail
          refine (strings_any ay al cy cl l l _ Hy8.out.row (HP.out.ext Hinv8.out.below) (by omega)).mono ?_
          rintro e w10 ⟨v, rfl, hb10, bb, rfl, hbt⟩
          obtain rfl : bb = true := hbt.2 rfl
          have Hinv10 := Lib.hid (Hinv8.out.ext hb10)
          clear hb10 Hinv8 Hy8 hbt
          go_wp2_with fail
          refine (lost_any w3.heap.size rc (0 + lc) _ Hinv10.out.c).mono ?_
          rintro e w11 ⟨rfl, rfl⟩
          go_wp2_with fail
          refine (left_any w3.heap.size rc (0 + lc) _ Hinv10.out.c).mono ?_
          rintro e w12 ⟨rfl, rfl⟩
          go_wp2
          go_ret
          exact ⟨_, rfl, Hinv10.out.below, isB_true trivial⟩
    · have ha3 : (2000 : Int) < ahead.size := by omega
      go_wp2_with fail
      refine (alive_any w0 HG.out).mono ?_
      rintro e w2 ⟨v, rfl, hb2, b, rfl, hbt⟩
      obtain rfl : b = true := hbt.2 trivial
      go_wp2
      go_ret
      exact ⟨_, rfl, hb2, isB_true trivial⟩
end Go.Proofs.YtgfkgcnnjehmlaaDoor
