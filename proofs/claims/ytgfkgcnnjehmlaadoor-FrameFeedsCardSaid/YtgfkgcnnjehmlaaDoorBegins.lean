/- begins, the document's: with what bytes begin; walked. -/
import Derived.Test.YtgfkgcnnjehmlaaDoorNumber
namespace Go.Proofs.YtgfkgcnnjehmlaaDoor
open Go Go.RowKit

/-- begins' three results -/
def BeginsR (s : List UInt8) (v : Value) (_ : World) : Prop :=
  ∃ (how : Int) (body : ByteArray) (n : Nat), v = .tuple #[.int .i64 how, .string body, .int .i64 n] ∧
    ((how = 0 ∧ beg s = none) ∨ (how = 1 ∧ beg s = some none) ∨ (how = 2 ∧ n ≤ s.length ∧ beg s = some (some (body.data.toList, s.drop n))))

theorem cmp_pref (s v : ByteArray) (k : Nat) (hk : k = min s.size v.size) : ((s.extract 0 k).toList == (v.extract 0 k).toList) = decide (s.data.toList.take v.size = v.data.toList.take s.data.toList.length) := by
  rw [Lib.extract_toList, Lib.extract_toList, List.drop_zero, List.drop_zero, Nat.sub_zero, Bool.eq_iff_iff, beq_iff_eq, decide_eq_true_iff]
  have hw : v.data.toList.length = v.size := rfl
  have hsl : s.data.toList.length = s.size := rfl
  rcases Nat.lt_or_ge s.size v.size with h | h
  · rw [show k = s.size by omega, hsl, List.take_of_length_le (l := s.data.toList) (i := v.size) (by omega), List.take_of_length_le (l := s.data.toList) (i := s.size) (by omega)]
  · rw [show k = v.size by omega, hsl, List.take_of_length_le (l := v.data.toList) (i := s.size) (by omega), List.take_of_length_le (l := v.data.toList) (i := v.size) (by omega)]

set_option maxHeartbeats 1000000 in
theorem begins_any (s : ByteArray) (w : World) (hs : s.size ≤ 1048576) : Calls Tryd.prog 24 #[.string s] w (Ret w (BeginsR s.data.toList)) := by
  go_enter Tryd.func24, Tryd.ntmps24
  obtain ⟨k, hk⟩ : ∃ k : Nat, k = min s.size 16 := ⟨_, rfl⟩
  go_wp2_with fail
  have e1 : min (s.size : Int) 16 = (k : Int) := by omega
  rw [e1]
  have hk1 : (k : Int) ≤ s.size := by omega
  have hk2 : (k : Int) ≤ 16 := by omega
  have hsl : s.data.toList.length = s.size := rfl
  have hcmp : ((s.extract 0 k).toList == (({ data := #[67, 111, 110, 116, 101, 110, 116, 45, 76, 101, 110, 103, 116, 104, 58, 32] } : ByteArray).extract 0 k).toList) = decide (s.data.toList.take 16 = wordL.take s.data.toList.length) := cmp_pref s ({ data := #[67, 111, 110, 116, 101, 110, 116, 45, 76, 101, 110, 103, 116, 104, 58, 32] } : ByteArray) k hk
  clear e1 hk
  by_cases hst : s.data.toList.take 16 = wordL.take s.data.toList.length
  · rw [decide_eq_true hst] at hcmp
    have Hst := Lib.hid hst
    clear hst hsl
    go_quiet (fail)
    clear hcmp
    by_cases hle : s.size ≤ 16
    · have hle2 : (s.size : Int) ≤ 16 := by omega
      have hbeg : beg s.data.toList = some none := by unfold beg; rw [if_pos Hst.out, if_pos (show s.data.toList.length ≤ 16 from hle)]
      have Hb := Lib.hid hbeg
      clear hbeg
      go_wp2
      go_ret3
      exact ⟨_, rfl, below_drew (Below.refl _ _) _, 1, _, 0, rfl, .inr (.inl ⟨rfl, Hb.out⟩)⟩
    · have hle2 : (16 : Int) < s.size := by omega
      go_wp2_with fail
      have ht : (s.extract 16 s.size).data.toList = s.data.toList.drop 16 := Lib.extract_to_end _ _
      have hts : (s.extract 16 s.size).size = s.size - 16 := by simp
      refine (number_any (s.extract 16 s.size) _ (by omega)).mono ?_
      rintro e w1 ⟨v, rfl, hb1, n, kk, rfl, hkk, hn⟩
      have hkk2 : kk ≤ s.size - 16 := by rw [← hts]; exact hkk
      rw [ht] at hn
      have HB := Lib.hid ((below_drew (Below.refl w.heap.size w) _).trans hb1)
      have hbeg : beg s.data.toList = match numOf ((s.data.toList.drop 16).takeWhile isFig) with
          | none => none
          | some n =>
            if ((s.data.toList.drop 16).dropWhile isFig).take 4 = endL.take ((s.data.toList.drop 16).dropWhile isFig).length then
              if ((s.data.toList.drop 16).dropWhile isFig).length < 4 + n then some none
              else some (some ((((s.data.toList.drop 16).dropWhile isFig).drop 4).take n, ((s.data.toList.drop 16).dropWhile isFig).drop (4 + n)))
            else none := by
        unfold beg
        rw [if_pos Hst.out, if_neg (show ¬ s.data.toList.length ≤ 16 from hle)]
        cases numOf ((s.data.toList.drop 16).takeWhile isFig) <;> rfl
      have Hbeg := Lib.hid hbeg
      clear hbeg hb1 ht hkk hts
      rcases hn with ⟨rfl, hnone⟩ | ⟨hn0, hn1, hkl, hor⟩
      · have hb2 : beg s.data.toList = none := by rw [Hbeg.out, hnone]
        have Hb := Lib.hid hb2
        clear hb2 hnone
        go_wp2
        go_ret3
        exact ⟨_, rfl, HB.out, 0, _, 0, rfl, .inl ⟨rfl, Hb.out⟩⟩
      · by_cases hk0 : kk = 0
        · have hk02 : ((kk : Int) == 0) = true := by rw [hk0]; rfl
          have hb2 : beg s.data.toList = none := by
            have hd : (s.data.toList.drop 16).takeWhile isFig = [] := List.length_eq_zero_iff.1 (by omega)
            have hn : numOf [] = none := by
              cases h : numOf [] with
              | none => rfl
              | some m => exact absurd (numOf_some h).2.2 (dec_ne m)
            rw [Hbeg.out, hd, hn]
          have Hb := Lib.hid hb2
          clear hb2 hkl hor hk0
          go_wp2
          go_ret3
          exact ⟨_, rfl, HB.out, 0, _, 0, rfl, .inl ⟨rfl, Hb.out⟩⟩
        · have hk02 : ((kk : Int) == 0) = false := by simp; omega
          have hnum := hor.resolve_left hk0
          have hrd : (s.extract (16 + kk) s.size).data.toList = (s.data.toList.drop 16).dropWhile isFig := by
            rw [Lib.extract_to_end, ← List.drop_drop]
            have e1 := List.takeWhile_append_dropWhile (p := isFig) (l := s.data.toList.drop 16)
            have e2 : (s.data.toList.drop 16).drop kk = ((s.data.toList.drop 16).takeWhile isFig ++ (s.data.toList.drop 16).dropWhile isFig).drop kk := by rw [e1]
            rw [e2, List.drop_left' hkl.symm]
          have hrs : (s.extract (16 + kk) s.size).size = s.size - (16 + kk) := by simp
          have Hrd2 : Hid ((s.extract (16 + kk) s.size).data.toList = s.data.toList.drop (16 + kk)) := Lib.extract_to_end _ _
          have hbeg2 := Hbeg.out
          rw [hnum, ← hrd] at hbeg2
          have Hb2 := Lib.hid hbeg2
          have Hrd := Lib.hid hrd
          clear hbeg2 hnum hor hkl hrd Hbeg
          obtain ⟨nn, rfl⟩ := Int.eq_ofNat_of_zero_le hn0
          go_wp2_with fail
          obtain ⟨j, hj⟩ : ∃ j : Nat, j = min (s.size - (16 + kk)) 4 := ⟨_, rfl⟩
          have e1 : min ((s.size - (16 + kk) : Nat) : Int) 4 = (j : Int) := by omega
          rw [e1]
          generalize s.extract (16 + kk) s.size = r at *
          rw [← hrs] at hj e1
          have hj1 : (j : Int) ≤ r.size := by omega
          have hj2 : (j : Int) ≤ 4 := by omega
          have hcmp : ((r.extract 0 j).toList == (({ data := #[13, 10, 13, 10] } : ByteArray).extract 0 j).toList) = decide (r.data.toList.take 4 = endL.take r.data.toList.length) := cmp_pref r ({ data := #[13, 10, 13, 10] } : ByteArray) j hj
          have hrl : r.data.toList.length = r.size := rfl
          simp only [Int.toNat_natCast] at Hb2
          clear e1 hj
          by_cases hst : r.data.toList.take 4 = endL.take r.data.toList.length
          · rw [decide_eq_true hst] at hcmp
            have hb3 := Hb2.out
            rw [if_pos hst] at hb3
            have Hb3 := Lib.hid hb3
            clear hst hb3 Hb2
            go_quiet (fail)
            clear hcmp
            by_cases h4 : r.size < 4 + nn
            · have h42 : (r.size : Int) < 4 + nn := by omega
              have hb4 := Hb3.out
              rw [if_pos (show r.data.toList.length < 4 + nn from h4)] at hb4
              have Hb4 := Lib.hid hb4
              clear hb4 Hb3
              go_wp2
              go_ret3
              exact ⟨_, rfl, below_drew HB.out _, 1, _, 0, rfl, .inr (.inl ⟨rfl, Hb4.out⟩)⟩
            · have h42 : 4 + (nn : Int) ≤ r.size := by omega
              have hb4 := Hb3.out
              rw [if_neg (show ¬ r.data.toList.length < 4 + nn from h4)] at hb4
              have Hb4 := Lib.hid hb4
              clear hb4 Hb3
              go_wp2_with fail
              go_quiet (fail)
              go_wp2
              go_ret3
              refine ⟨_, rfl, below_drew (below_drew HB.out _) _, 2, r.extract 4 (4 + nn), 16 + kk + 4 + nn, rfl, .inr (.inr ⟨rfl, ?_, ?_⟩)⟩
              · show 16 + kk + 4 + nn ≤ s.size; omega
              · rw [Hb4.out, Lib.extract_data, Nat.add_sub_cancel_left, Hrd2.out, List.drop_drop, List.drop_drop]
                rw [show 16 + kk + (4 + nn) = 16 + kk + 4 + nn by omega]
          · rw [decide_eq_false hst] at hcmp
            have hb3 := Hb2.out
            rw [if_neg hst] at hb3
            have Hb3 := Lib.hid hb3
            clear hst hb3 Hb2
            go_quiet (fail)
            go_wp2
            go_ret3
            exact ⟨_, rfl, below_drew HB.out _, 0, _, 0, rfl, .inl ⟨rfl, Hb3.out⟩⟩
  · rw [decide_eq_false hst] at hcmp
    have Hst := Lib.hid hst
    clear hst hsl
    go_quiet (fail)
    go_wp2
    go_ret3
    exact ⟨_, rfl, below_drew (Below.refl _ _) _, 0, _, 0, rfl, .inl ⟨rfl, by unfold beg; rw [if_neg Hst.out]⟩⟩
end Go.Proofs.YtgfkgcnnjehmlaaDoor
