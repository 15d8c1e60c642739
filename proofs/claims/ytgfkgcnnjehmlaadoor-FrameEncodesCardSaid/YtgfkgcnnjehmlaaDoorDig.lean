/- digits, Head, Encode, the document's; walked. -/
import Derived.Test.YtgfkgcnnjehmlaaDoorBack
import Derived.Deep.RegionHeld3
namespace Go.Proofs.YtgfkgcnnjehmlaaDoor
open Go Go.RowKit

theorem dig_piece {m : Nat} (h : m < 10) : (({ data := #[48, 49, 50, 51, 52, 53, 54, 55, 56, 57] } : ByteArray).extract m (m + 1)).data.toList = Lib.decDigits m := by
  rw [dec_small h, Lib.extract_data, Nat.add_sub_cancel_left]
  have : m = 0 ∨ m = 1 ∨ m = 2 ∨ m = 3 ∨ m = 4 ∨ m = 5 ∨ m = 6 ∨ m = 7 ∨ m = 8 ∨ m = 9 := by omega
  rcases this with rfl | rfl | rfl | rfl | rfl | rfl | rfl | rfl | rfl | rfl <;> rfl

set_option maxHeartbeats 400000 in
theorem digits_any (n : Nat) (w : World) (hn : n ≤ 65536) : Calls Tryd.prog 27 #[.int .i64 n] w (fun e w' => e = .returned (strV (Lib.decDigits n)) ∧ w' = w) := by
  have hd5 := dec_len n hn
  go_enter Tryd.func27, Tryd.ntmps27
  go_wp2_with fail
  go_loop [3, 0] (fun s i => ∃ (m : Nat) (x : ByteArray), m ≤ n ∧ i = .int .i64 m ∧ s = .string x ∧ Hid ((x.size = 0 ∧ m = n) ∨ (0 < x.size ∧ (if m = 0 then [] else Lib.decDigits m) ++ x.data.toList = Lib.decDigits n))) (fun s i => (intOf i).toNat * 2 + (match s with | .string x => if x.size = 0 then 1 else 0 | _ => 0))
  case atStart => exact ⟨n, { data := #[] }, Nat.le_refl _, rfl, rfl, .inl ⟨rfl, rfl⟩⟩
  case round =>
    obtain ⟨m, x, hm, rfl, rfl, hq⟩ := hrel
    have hxl : x.data.toList.length = x.size := rfl
    have hx5 : x.size ≤ 5 := by
      rcases hq.out with ⟨h, -⟩ | ⟨-, h⟩
      · omega
      · have := congrArg List.length h
        rw [List.length_append] at this; omega
    have hm10 : m % 10 < 10 := Nat.mod_lt _ (by decide)
    have hdp := dig_piece hm10
    have hnext : 0 < m ∨ x.size = 0 → (if m / 10 = 0 then [] else Lib.decDigits (m / 10)) ++ (({ data := #[48, 49, 50, 51, 52, 53, 54, 55, 56, 57] } : ByteArray).extract (m % 10) (m % 10 + 1) ++ x).data.toList = Lib.decDigits n := fun h => by
      have e1 : (({ data := #[48, 49, 50, 51, 52, 53, 54, 55, 56, 57] } : ByteArray).extract (m % 10) (m % 10 + 1) ++ x).data.toList = Lib.decDigits (m % 10) ++ x.data.toList := by rw [← hdp]; simp
      have e2 : (if m / 10 = 0 then [] else Lib.decDigits (m / 10)) ++ Lib.decDigits (m % 10) = Lib.decDigits m := by
        by_cases h10 : m < 10
        · rw [if_pos (by omega), List.nil_append, Nat.mod_eq_of_lt h10]
        · rw [if_neg (by omega), dec_big h10, dec_small hm10]
      rw [e1, ← List.append_assoc, e2]
      rcases hq.out with ⟨h1, h2⟩ | ⟨h1, h2⟩
      · rw [data_nil h1, List.append_nil, h2]
      · rw [if_neg (by omega)] at h2; exact h2
    have Hnext := Lib.hid hnext
    have hes : (({ data := #[48, 49, 50, 51, 52, 53, 54, 55, 56, 57] } : ByteArray).extract (m % 10) (m % 10 + 1)).size = 1 := by
      have h1 := congrArg List.length hdp
      rw [Lib.decDigits_length, Lib.nDigits_small hm10] at h1
      exact h1
    clear hnext hdp
    by_cases hz : x.size = 0
    · have hE := emp_true hz
      go_wp2_with fail
      go_round
      case rel => exact ⟨m / 10, _, by omega, by congr 1, rfl, .inr ⟨by rw [ByteArray.size_append]; omega, Hnext.out (.inr hz)⟩⟩
      case measure =>
        have hsz : (({ data := #[48, 49, 50, 51, 52, 53, 54, 55, 56, 57] } : ByteArray).extract (m % 10) (m % 10 + 1) ++ x).size = 1 + x.size := by rw [ByteArray.size_append, hes]
        show ((m : Int) / 10).toNat * 2 + (if (({ data := #[48, 49, 50, 51, 52, 53, 54, 55, 56, 57] } : ByteArray).extract (m % 10) (m % 10 + 1) ++ x).size = 0 then 1 else 0) < (m : Int).toNat * 2 + (if x.size = 0 then 1 else 0)
        rw [if_neg (by omega)]
        split <;> omega
    · have hE := emp_false hz
      by_cases hm0 : 0 < m
      · have hm1 : (0 : Int) < m := by omega
        go_wp2_with fail
        go_round
        case rel => exact ⟨m / 10, _, by omega, by congr 1, rfl, .inr ⟨by rw [ByteArray.size_append]; omega, Hnext.out (.inl hm0)⟩⟩
        case measure =>
          have hsz : (({ data := #[48, 49, 50, 51, 52, 53, 54, 55, 56, 57] } : ByteArray).extract (m % 10) (m % 10 + 1) ++ x).size = 1 + x.size := by rw [ByteArray.size_append, hes]
          show ((m : Int) / 10).toNat * 2 + (if (({ data := #[48, 49, 50, 51, 52, 53, 54, 55, 56, 57] } : ByteArray).extract (m % 10) (m % 10 + 1) ++ x).size = 0 then 1 else 0) < (m : Int).toNat * 2 + (if x.size = 0 then 1 else 0)
          rw [if_neg (by omega)]
          split <;> omega
      · have hm1 : ¬ (0 : Int) < m := by omega
        have hfin : .string x = strV (Lib.decDigits n) := by
          rcases hq.out with ⟨h1, -⟩ | ⟨-, h2⟩
          · exact absurd h1 hz
          · rw [if_pos (by omega), List.nil_append] at h2
            rw [← h2]; rfl
        have Hfin := Lib.hid hfin
        clear hfin
        go_wp2
        go_ret
        exact ⟨by rw [← Hfin.out]; rfl, rfl⟩

theorem str_eq {b : ByteArray} {l : List UInt8} (h : b.data.toList = l) : Value.string b = strV l := by rw [← h]; rfl

theorem refHead_any (n : Nat) (w : World) (hn : n ≤ 65536) : Calls Tryd.prog 21 #[.int .i64 n] w (fun e w' => e = .returned (strV (headL n)) ∧ w' = w) := by
  have hd5 := dec_len n hn
  go_enter Tryd.func21, Tryd.ntmps21
  go_wp2_with fail
  refine (digits_any n w hn).mono ?_
  rintro e w1 ⟨rfl, rfl⟩
  obtain ⟨z, hz⟩ : ∃ z : ByteArray, z = ⟨(Lib.decDigits n).toArray⟩ := ⟨_, rfl⟩
  have hzs : z.size = (Lib.decDigits n).length := by rw [hz]; simp [ByteArray.size]
  have hzd : z.data.toList = Lib.decDigits n := by rw [hz]
  have hsz : strV (Lib.decDigits n) = .string z := by rw [hz]; rfl
  rw [hsz]
  have Hzd := Lib.hid hzd
  clear hz hzd hsz
  go_wp2
  go_ret
  have h : Value.string (({ data := #[67, 111, 110, 116, 101, 110, 116, 45, 76, 101, 110, 103, 116, 104, 58, 32] } : ByteArray) ++ z ++ { data := #[13, 10, 13, 10] }) = strV (headL n) := str_eq (by simp [Hzd.out, headL, wordL, endL])
  exact ⟨congrArg Ending.returned h, rfl⟩

set_option maxHeartbeats 1000000 in
theorem refEncode_any (a : Option Addr) (c : Nat) (l : List (List UInt8)) (w : World) (hr : Row w 1 a l.length (l.map strV)) (hl : l.length ≤ 60) (ht : total l ≤ 2000) :
    Calls Tryd.prog 11 #[.slice a l.length c] w (Ret w (fun v _ => v = .tuple #[strV (encL l), .int .i64 0])) := by
  have HR := Lib.hid hr
  clear hr
  go_enter Tryd.func11, Tryd.ntmps11
  go_wp2_with fail
  go_loopw [4, 5] (fun s i wq => ∃ (k : Nat) (x : ByteArray), k ≤ l.length ∧ i = .int .i64 k ∧ s = .string x ∧ x.size ≤ 4000 ∧ Hid (x.data.toList = encL (l.take k) ∧ Below w.heap.size w wq)) (fun _ i _ => l.length - (intOf i).toNat)
  case atStart => exact ⟨0, { data := #[] }, Nat.zero_le _, rfl, rfl, by decide, rfl, Below.refl _ _⟩
  case round =>
    obtain ⟨k, x, hk, rfl, rfl, hxs, hq⟩ := hrel
    by_cases hlt : k < l.length
    · obtain ⟨y, hy⟩ := get_some hlt
      obtain ⟨ab, ao, rfl, v1⟩ := (HR.out.ext hq.out.2).elem1 hy
      have hkl : (k : Int) < l.length := by omega
      have Hy := Lib.hid hy
      have hym := total_mem (List.mem_of_getElem? hy)
      have hys : (⟨y.toArray⟩ : ByteArray).size = y.length := by simp [ByteArray.size]
      have v2 : wr.cell? ⟨ab, ao + k, none⟩ = some (.string ⟨y.toArray⟩) := v1
      obtain ⟨z, hz⟩ : ∃ z : ByteArray, z = ⟨y.toArray⟩ := ⟨_, rfl⟩
      rw [← hz] at v2 hys
      have Hz := Lib.hid hz
      have hbig : (y.length : Int) ≤ 65536 := by omega
      have hdraw : ∀ q, (wr.drewN q).cell? ⟨ab, ao + k, none⟩ = some (.string z) := fun q => v2
      obtain ⟨hd, hhd⟩ : ∃ hd : ByteArray, hd = ⟨(headL y.length).toArray⟩ := ⟨_, rfl⟩
      have hdd : hd.data.toList = headL y.length := by rw [hhd]
      have hds : hd.size ≤ 30 := by
        have h1 := headL_len y.length (by omega)
        rw [← hdd] at h1; exact h1
      have hcall : ∀ w, Calls Tryd.prog 21 #[.int .i64 y.length] w (fun e w' => e = .returned (.string hd) ∧ w' = w) := fun w => by
        have h1 := refHead_any y.length w (by omega)
        have h2 : strV (headL y.length) = .string hd := by rw [hhd]; rfl
        rw [h2] at h1; exact h1
      have Hcall := Lib.hid hcall
      have Hdd := Lib.hid hdd
      have hA1 : ¬ 9223372036854775807 < x.size + hd.size := by omega
      have hA2 : ¬ 9223372036854775807 < x.size + hd.size + y.length := by omega
      clear hy hz v1 hcall hdd hhd hdraw
      go_wp2_with fail
      go_region_held3 (fun w' => w'.cell? ⟨ab, ao + k, none⟩ = some (.string z)) (go_keep) (first | (go_at_call 21; refine (Hcall.out _).mono ?_; rintro e w' ⟨rfl, rfl⟩))
      go_wp2
      go_roundw
      case rel =>
        have hk1 : l.take (k + 1) = l.take k ++ [y] := by rw [List.take_add_one, Hy.out]; rfl
        have hall : ∀ u ∈ l.take (k + 1), u.length ≤ 65536 := fun u hu => by have := total_mem (List.mem_of_mem_take hu); omega
        have hdat : (x ++ hd ++ z).data.toList = encL (l.take (k + 1)) := by
          rw [hk1, encL_app, ← hq.out.1, ← Hdd.out, Hz.out]; simp
        have hle := encL_total hall
        have htt : total (l.take (k + 1)) ≤ total l := by
          have h1 := congrArg total (List.take_append_drop (k + 1) l)
          rw [total_app] at h1; omega
        refine ⟨k + 1, x ++ hd ++ z, by omega, by go_num, rfl, ?_, hdat, hq.out.2.drew⟩
        have h2 := congrArg List.length hdat
        rw [List.length_take] at hle
        have h3 : (x ++ hd ++ z).data.toList.length = (x ++ hd ++ z).size := rfl
        omega
      case measure => simp [intOf]; omega
    · obtain rfl : k = l.length := by omega
      have hx := hq.out.1
      rw [List.take_of_length_le (Nat.le_refl _)] at hx
      have Hx := Lib.hid hx
      clear hx
      go_wp2
      go_ret2
      rw [← str_eq Hx.out]
      exact ⟨_, rfl, hq.out.2, rfl⟩
end Go.Proofs.YtgfkgcnnjehmlaaDoor
