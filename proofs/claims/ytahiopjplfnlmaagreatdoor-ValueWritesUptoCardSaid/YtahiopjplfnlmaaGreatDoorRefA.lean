/- The document's figures, texts between quotes, and a value's text; walked. -/
import Derived.Test.YtahiopjplfnlmaaGreatDoorTxt3
import Derived.Test.YtahiopjplfnlmaaGreatDoorSizV
namespace Go.Proofs.YtahiopjplfnlmaaGreatDoor
open Go Go.RowKit

theorem emp_true {x : ByteArray} (h : x.size = 0) : x.toList.isEmpty = true := by
  rw [Lib.toList_data, List.isEmpty_iff, ← List.length_eq_zero_iff]; exact h
theorem emp_false {x : ByteArray} (h : ¬ x.size = 0) : x.toList.isEmpty = false := by
  rw [Bool.eq_false_iff]; intro he
  rw [Lib.toList_data, List.isEmpty_iff] at he
  exact h (congrArg List.length he)
theorem data_nil {x : ByteArray} (h : x.size = 0) : x.data.toList = [] := List.length_eq_zero_iff.1 h
theorem nDig_le : ∀ (k u : Nat), u < 10 ^ (k + 1) → Lib.nDigits u ≤ k + 1
  | 0, u, h => by rw [Lib.nDigits_small (by simpa using h)]; omega
  | k + 1, u, h => by
    by_cases h1 : u < 10
    · rw [Lib.nDigits_small h1]; omega
    · rw [Lib.nDigits_big h1]
      have := nDig_le k (u / 10) (by rw [Nat.pow_succ] at h; omega)
      omega
theorem dec_len (n : Nat) (h : n ≤ 9007199254740992) : (Lib.decDigits n).length ≤ 16 := by
  rw [Lib.decDigits_length]; exact nDig_le 15 n (by omega)
theorem dig_piece {m : Nat} (h : m < 10) : (({ data := #[48, 49, 50, 51, 52, 53, 54, 55, 56, 57] } : ByteArray).extract m (m + 1)).data.toList = Lib.decDigits m := by
  rw [dec_small h, Lib.extract_data, Nat.add_sub_cancel_left]
  have : m = 0 ∨ m = 1 ∨ m = 2 ∨ m = 3 ∨ m = 4 ∨ m = 5 ∨ m = 6 ∨ m = 7 ∨ m = 8 ∨ m = 9 := by omega
  rcases this with rfl | rfl | rfl | rfl | rfl | rfl | rfl | rfl | rfl | rfl <;> rfl

set_option maxHeartbeats 2000000 in
theorem digitsN_any (n : Nat) (w : World) (hn : n ≤ 9007199254740992) : Calls Tryz.prog 35 #[.int .i64 n] w (fun e w' => e = .returned (strV (Lib.decDigits n)) ∧ w' = w) := by
  have hd5 := dec_len n hn
  go_enter Tryz.func35, Tryz.ntmps35
  go_wp2_with fail
  go_loop [3, 0] (fun s i => ∃ (m : Nat) (x : ByteArray), m ≤ n ∧ i = .int .i64 m ∧ s = .string x ∧ Hid ((x.size = 0 ∧ m = n) ∨ (0 < x.size ∧ (if m = 0 then [] else Lib.decDigits m) ++ x.data.toList = Lib.decDigits n))) (fun s i => (intOf i).toNat * 2 + (match s with | .string x => if x.size = 0 then 1 else 0 | _ => 0))
  case atStart => exact ⟨n, { data := #[] }, Nat.le_refl _, rfl, rfl, .inl ⟨rfl, rfl⟩⟩
  case round =>
    obtain ⟨m, x, hm, rfl, rfl, hq⟩ := hrel
    have hxl : x.data.toList.length = x.size := rfl
    have hx5 : x.size ≤ 16 := by
      rcases hq.out with ⟨h, -⟩ | ⟨-, h⟩
      · omega
      · have := congrArg List.length h
        rw [List.length_append] at this; omega
    have hm10 : m % 10 < 10 := Nat.mod_lt _ (by decide)
    have hdp := dig_piece hm10
    have hnext : 0 < m ∨ x.size = 0 → (if m / 10 = 0 then [] else Lib.decDigits (m / 10)) ++ (({ data := #[48, 49, 50, 51, 52, 53, 54, 55, 56, 57] } : ByteArray).extract (m % 10) (m % 10 + 1) ++ x).data.toList = Lib.decDigits n := fun h => by
      have e1 : (({ data := #[48, 49, 50, 51, 52, 53, 54, 55, 56, 57] } : ByteArray).extract (m % 10) (m % 10 + 1) ++ x).data.toList = Lib.decDigits (m % 10) ++ x.data.toList := by rw [← hdp]; simp
      have e2 : (if m / 10 = 0 then [] else Lib.decDigits (m / 10)) ++ Lib.decDigits (m % 10) = Lib.decDigits m := by
        by_cases h10 : m < 10
        · rw [if_pos (by omega), List.nil_append, Nat.mod_eq_of_lt h10]
        · rw [if_neg (by omega), dec_big h10, dec_small hm10]
      rw [e1, ← List.append_assoc, e2]
      rcases hq.out with ⟨h1, h2⟩ | ⟨h1, h2⟩
      · rw [data_nil h1, List.append_nil, h2]
      · rw [if_neg (by omega)] at h2; exact h2
    have Hnext := Lib.hid hnext
    have hes : (({ data := #[48, 49, 50, 51, 52, 53, 54, 55, 56, 57] } : ByteArray).extract (m % 10) (m % 10 + 1)).size = 1 := by
      have h1 := congrArg List.length hdp
      rw [Lib.decDigits_length, Lib.nDigits_small hm10] at h1
      exact h1
    clear hnext hdp
    by_cases hz : x.size = 0
    · have hE := emp_true hz
      go_wp2_with fail
      go_round
      case rel => exact ⟨m / 10, _, by omega, by congr 1, rfl, .inr ⟨by rw [ByteArray.size_append]; omega, Hnext.out (.inr hz)⟩⟩
      case measure =>
        have hsz : (({ data := #[48, 49, 50, 51, 52, 53, 54, 55, 56, 57] } : ByteArray).extract (m % 10) (m % 10 + 1) ++ x).size = 1 + x.size := by rw [ByteArray.size_append, hes]
        show ((m : Int) / 10).toNat * 2 + (if (({ data := #[48, 49, 50, 51, 52, 53, 54, 55, 56, 57] } : ByteArray).extract (m % 10) (m % 10 + 1) ++ x).size = 0 then 1 else 0) < (m : Int).toNat * 2 + (if x.size = 0 then 1 else 0)
        rw [if_neg (by omega)]
        split <;> omega
    · have hE := emp_false hz
      by_cases hm0 : 0 < m
      · have hm1 : (0 : Int) < m := by omega
        go_wp2_with fail
        go_round
        case rel => exact ⟨m / 10, _, by omega, by congr 1, rfl, .inr ⟨by rw [ByteArray.size_append]; omega, Hnext.out (.inl hm0)⟩⟩
        case measure =>
          have hsz : (({ data := #[48, 49, 50, 51, 52, 53, 54, 55, 56, 57] } : ByteArray).extract (m % 10) (m % 10 + 1) ++ x).size = 1 + x.size := by rw [ByteArray.size_append, hes]
          show ((m : Int) / 10).toNat * 2 + (if (({ data := #[48, 49, 50, 51, 52, 53, 54, 55, 56, 57] } : ByteArray).extract (m % 10) (m % 10 + 1) ++ x).size = 0 then 1 else 0) < (m : Int).toNat * 2 + (if x.size = 0 then 1 else 0)
          rw [if_neg (by omega)]
          split <;> omega
      · have hm1 : ¬ (0 : Int) < m := by omega
        have hfin : .string x = strV (Lib.decDigits n) := by
          rcases hq.out with ⟨h1, -⟩ | ⟨-, h2⟩
          · exact absurd h1 hz
          · rw [if_pos (by omega), List.nil_append] at h2
            rw [← h2]; rfl
        have Hfin := Lib.hid hfin
        clear hfin
        go_wp2
        go_ret
        exact ⟨by rw [← Hfin.out]; rfl, rfl⟩


set_option maxHeartbeats 2000000 in
theorem digits_any (n : Int) (w : World) (h1 : -9007199254740992 ≤ n) (h2 : n ≤ 9007199254740992) : Calls Tryz.prog 35 #[.int .i64 n] w (fun e w' => e = .returned (.string ⟨(Lib.itoa n).toArray⟩) ∧ w' = w) := by
  by_cases hn : n < 0
  · obtain ⟨m, hm⟩ : ∃ m : Nat, (m : Int) = -n := ⟨(-n).toNat, by omega⟩
    have hd := digitsN_any m w (by omega)
    have hd5 := dec_len m (by omega)
    rw [hm] at hd
    have HD := Lib.hid hd
    have HI : Hid (Lib.itoa n = 45 :: Lib.decDigits m) := Lib.hid (by unfold Lib.itoa; rw [if_pos hn]; congr 2; omega)
    clear hd hm
    go_enter Tryz.func35, Tryz.ntmps35
    go_wp2_with fail
    refine HD.out.mono ?_
    rintro e w1 ⟨rfl, rfl⟩
    have hcat : (⟨#[45]⟩ : ByteArray) ++ (⟨(Lib.decDigits m).toArray⟩ : ByteArray) = ⟨(45 :: Lib.decDigits m).toArray⟩ := cat_nm [45] _
    have Hcat := Lib.hid hcat
    clear hcat HD
    unfold strV
    generalize hz : (⟨(Lib.decDigits m).toArray⟩ : ByteArray) = z at *
    have hzs : z.size ≤ 16 := by rw [← hz]; simp [ByteArray.size]; omega
    clear hz hd5
    go_wp2
    go_ret
    exact ⟨by rw [HI.out, ← Hcat.out]; rfl, rfl⟩
  · obtain ⟨m, rfl⟩ : ∃ m : Nat, n = (m : Int) := ⟨n.toNat, by omega⟩
    refine (digitsN_any m w (by omega)).mono ?_
    rintro e w1 ⟨rfl, rfl⟩
    refine ⟨?_, rfl⟩
    unfold Lib.itoa strV
    rw [if_neg (by omega)]
    rfl

theorem ext01 : ∀ (n : Nat), n < 2 → (⟨#[48, 49]⟩ : ByteArray).extract n (n + 1) = ⟨([hexFig n] : Nm).toArray⟩
  | 0, _ => by apply ba_eq; rfl
  | 1, _ => by apply ba_eq; rfl
theorem ext16 : ∀ (n : Nat), n < 16 → (⟨#[48, 49, 50, 51, 52, 53, 54, 55, 56, 57, 97, 98, 99, 100, 101, 102]⟩ : ByteArray).extract n (n + 1) = ⟨([hexFig n] : Nm).toArray⟩ := by
  intro n h
  apply ba_eq
  rw [Lib.extract_data, Nat.add_sub_cancel_left]
  have : ∀ q : Fin 16, (List.drop q.val [48, 49, 50, 51, 52, 53, 54, 55, 56, 57, 97, 98, 99, 100, 101, 102]).take 1 = [hexFig q.val] := by decide
  exact this ⟨n, h⟩
theorem ext_one (s : Nm) {k : Nat} {c : UInt8} (h : s[k]? = some c) : (⟨s.toArray⟩ : ByteArray).extract k (k + 1) = ⟨([c] : Nm).toArray⟩ := by
  apply ba_eq
  rw [Lib.extract_data, Nat.add_sub_cancel_left]
  have hk := get_lt h
  show (s.drop k).take 1 = [c]
  rw [List.drop_eq_getElem_cons hk]
  simp [(List.getElem?_eq_some_iff.1 h).2]

set_option maxHeartbeats 4000000 in
theorem quotedR_any (s : Nm) (w : World) (hs : s.length ≤ 16777216) : Calls Tryz.prog 36 #[.string ⟨s.toArray⟩] w (fun e w' => e = .returned (.string ⟨(quoted s).toArray⟩) ∧ Below w.heap.size w w') := by
  obtain ⟨z, hz⟩ : ∃ z : ByteArray, z = ⟨s.toArray⟩ := ⟨_, rfl⟩
  have hzs : z.size = s.length := by rw [hz]; exact size_nm s
  rw [← hz]
  have HZ := Lib.hid hz
  have HS := Lib.hid hs
  clear hz hs
  go_enter Tryz.func36, Tryz.ntmps36
  go_wp2_with fail
  go_loopw [3, 4, 5] (fun o i _ wr => ∃ (k : Nat) (A : ByteArray), k ≤ s.length ∧ i = .int .i64 k ∧ o = .string A ∧ A.size ≤ 6 * k ∧ Hid (A = ⟨((s.take k).flatMap quoteB).toArray⟩) ∧ Hid (Below w.heap.size w wr)) (fun _ i _ _ => s.length - (intOf i).toNat)
  case atStart => exact ⟨0, _, Nat.zero_le _, rfl, rfl, Nat.le_refl _, Lib.hid rfl, Lib.hid (Below.refl _ _)⟩
  case round =>
    obtain ⟨k, A, hk, rfl, rfl, hA, HA, hb⟩ := hrel
    have hki : (k : Int) + 1 ≤ 16777217 := by have := HS.out; omega
    by_cases hlt : k < s.length
    · obtain ⟨c, hc⟩ := get_some hlt
      have hzk : ∃ hk : k < z.size, z[k] = c := by rw [HZ.out]; exact index_nm s hc
      obtain ⟨hkz, hzc⟩ := hzk
      have hkn : (k : Int) < z.size := by omega
      have hex : z.extract k (k + 1) = ⟨([c] : Nm).toArray⟩ := by rw [HZ.out]; exact ext_one s hc
      have HEX := Lib.hid hex
      obtain ⟨m, hm⟩ : ∃ m : Nat, m = c.toNat := ⟨_, rfl⟩
      have hcc : z[k].toNat = m := by rw [hzc, hm]
      have hm256 : m < 256 := by rw [hm]; exact UInt8.toNat_lt c
      have HM := Lib.hid hm
      have Htk := Lib.hid (quotes_take hc)
      have HCAT : ∀ B : Nm, quoteB c = B → A ++ (⟨B.toArray⟩ : ByteArray) = ⟨((s.take (k + 1)).flatMap quoteB).toArray⟩ := fun B h => by rw [Htk.out, h, HA.out, cat_nm]
      have HCT := Lib.hid HCAT
      clear HCAT hc hzc hm hex
      by_cases h32 : m < 32
      · have h32i : (m : Int) < 32 := by omega
        have e1 := ext01 (m / 16) (by omega)
        have e2 := ext16 (m % 16) (by omega)
        have hd : m / 16 < 2 := by omega
        have hr : m % 16 < 16 := by omega
        have s1 : ((⟨#[48, 49]⟩ : ByteArray).extract (m / 16) (m / 16 + 1)).size = 1 := by rw [e1]; rfl
        have s2 : ((⟨#[48, 49, 50, 51, 52, 53, 54, 55, 56, 57, 97, 98, 99, 100, 101, 102]⟩ : ByteArray).extract (m % 16) (m % 16 + 1)).size = 1 := by rw [e2]; rfl
        have HF : Hid (((A ++ (⟨#[92, 117, 48, 48]⟩ : ByteArray)) ++ (⟨#[48, 49]⟩ : ByteArray).extract (m / 16) (m / 16 + 1)) ++ (⟨#[48, 49, 50, 51, 52, 53, 54, 55, 56, 57, 97, 98, 99, 100, 101, 102]⟩ : ByteArray).extract (m % 16) (m % 16 + 1) = ⟨((s.take (k + 1)).flatMap quoteB).toArray⟩) := Lib.hid (by
          rw [e1, e2, ← HCT.out _ (quoteB_low (c := c) (by have := HM.out; omega)), ← HM.out, HA.out, show (⟨#[92, 117, 48, 48]⟩ : ByteArray) = ⟨([92, 117, 48, 48] : Nm).toArray⟩ from rfl, cat_nm, cat_nm, cat_nm, cat_nm]
          simp)
        clear e1 e2
        go_wp2_with fail
        go_quiet (fail)
        go_wp2
        go_roundw
        case rel => exact ⟨k + 1, _, by omega, by go_num, rfl, by simp only [ByteArray.size_append, s1, s2]; show A.size + 4 + 1 + 1 ≤ _; omega, HF, Lib.hid (below_drew hb.out _)⟩
        case measure => simp [intOf]; omega
      · have h32i : ¬ (m : Int) < 32 := by omega
        by_cases h34 : m = 34
        · have h34' : ((m : Int) == 34) = true := by simp; omega
          have HF : Hid ((A ++ (⟨#[92]⟩ : ByteArray)) ++ z.extract k (k + 1) = ⟨((s.take (k + 1)).flatMap quoteB).toArray⟩) := Lib.hid (by
            rw [HEX.out, ← HCT.out _ (quoteB_two (c := c) (by have := HM.out; omega) (by have := HM.out; omega)), HA.out, show (⟨#[92]⟩ : ByteArray) = ⟨([92] : Nm).toArray⟩ from rfl, cat_nm, cat_nm, cat_nm]
            simp)
          have hes : (z.extract k (k + 1)).size = 1 := by rw [HEX.out]; rfl
          go_wp2
          go_roundw
          case rel => exact ⟨k + 1, _, by omega, by go_num, rfl, by simp only [ByteArray.size_append, hes]; show A.size + 1 + 1 ≤ _; omega, HF, hb⟩
          case measure => simp [intOf]; omega
        · have h34' : ((m : Int) == 34) = false := by simp; omega
          by_cases h92 : m = 92
          · have h92' : ((m : Int) == 92) = true := by simp; omega
            have HF : Hid ((A ++ (⟨#[92]⟩ : ByteArray)) ++ z.extract k (k + 1) = ⟨((s.take (k + 1)).flatMap quoteB).toArray⟩) := Lib.hid (by
              rw [HEX.out, ← HCT.out _ (quoteB_two (c := c) (by have := HM.out; omega) (by have := HM.out; omega)), HA.out, show (⟨#[92]⟩ : ByteArray) = ⟨([92] : Nm).toArray⟩ from rfl, cat_nm, cat_nm, cat_nm]
              simp)
            have hes : (z.extract k (k + 1)).size = 1 := by rw [HEX.out]; rfl
            go_wp2
            go_roundw
            case rel => exact ⟨k + 1, _, by omega, by go_num, rfl, by simp only [ByteArray.size_append, hes]; show A.size + 1 + 1 ≤ _; omega, HF, hb⟩
            case measure => simp [intOf]; omega
          · have h92' : ((m : Int) == 92) = false := by simp; omega
            have HF : Hid (A ++ z.extract k (k + 1) = ⟨((s.take (k + 1)).flatMap quoteB).toArray⟩) := Lib.hid (by
              rw [HEX.out, ← HCT.out _ (quoteB_one (c := c) (by have := HM.out; omega) (by have := HM.out; omega) (by have := HM.out; omega))])
            have hes : (z.extract k (k + 1)).size = 1 := by rw [HEX.out]; rfl
            go_wp2
            go_roundw
            case rel => exact ⟨k + 1, _, by omega, by go_num, rfl, by simp only [ByteArray.size_append, hes]; omega, HF, hb⟩
            case measure => simp [intOf]; omega
    · obtain rfl : k = s.length := by omega
      have HQ : Hid ((⟨#[34]⟩ : ByteArray) ++ A ++ (⟨#[34]⟩ : ByteArray) = ⟨(quoted s).toArray⟩) := Lib.hid (by
        rw [HA.out, List.take_length, show (⟨#[34]⟩ : ByteArray) = ⟨([34] : Nm).toArray⟩ from rfl, cat_nm, cat_nm]; rfl)
      have hA2 : A.size ≤ 100663296 := by have := HS.out; omega
      go_wp2
      go_ret
      exact ⟨by rw [← HQ.out]; rfl, hb.out⟩

theorem commas_snoc : ∀ (l : List Nm) (x : Nm), commas (l ++ [x]) = if l = [] then x else commas l ++ 44 :: x
  | [], x => by simp [commas]
  | [y], x => by simp [commas]
  | y :: z :: l, x => by
    have := commas_snoc (z :: l) x
    rw [if_neg (by simp)] at this ⊢
    show y ++ 44 :: commas (z :: l ++ [x]) = y ++ 44 :: commas (z :: l) ++ 44 :: x
    rw [this, List.append_assoc]; rfl
theorem commas_le : ∀ (m l : List Nm), (commas l).length ≤ (commas (l ++ m)).length
  | [], l => by simp
  | x :: m, l => by
    have h1 := commas_le m (l ++ [x])
    rw [List.append_assoc, List.singleton_append] at h1
    have h2 : (commas l).length ≤ (commas (l ++ [x])).length := by
      rw [commas_snoc]
      split
      · rename_i h; rw [h]; simp [commas]
      · rw [List.length_append]; omega
    omega
theorem commas_take (l : List Nm) (k : Nat) : (commas (l.take k)).length ≤ (commas l).length := by
  have := commas_le (l.drop k) (l.take k)
  rwa [List.take_append_drop] at this
theorem commas_next {l : List Nm} {k : Nat} {x : Nm} (hx : l[k]? = some x) : commas (l.take (k + 1)) = if k = 0 then x else commas (l.take k) ++ 44 :: x := by
  have hk := get_lt hx
  rw [take_one hx, commas_snoc]
  by_cases h : k = 0
  · rw [if_pos h, if_pos (by rw [h]; rfl)]
  · rw [if_neg h, if_neg (by intro e; have := congrArg List.length e; rw [List.length_take, List.length_nil] at this; omega)]
def TextRAt (d : VD) : Prop := ∀ w : World, ValAt w (fun _ => True) d → formed d.v = true → sizeV d.v ≤ 1048576 → Calls Tryz.prog 21 #[d.val] w (fun e w' => e = .returned (.string ⟨(textV d.v).toArray⟩) ∧ Below w.heap.size w w')
set_option maxHeartbeats 4000000 in
theorem textR_leaf (d : VD) (w : World) (hf : formed d.v = true) (hs : sizeV d.v ≤ 1048576) (h4 : d.sort < 4) : Calls Tryz.prog 21 #[d.val] w (fun e w' => e = .returned (.string ⟨(textV d.v).toArray⟩) ∧ Below w.heap.size w w') := by
  obtain ⟨hh, -⟩ := formed_head hf
  have hsrt := headOk_sort hh
  obtain ⟨hn1, hn2, -⟩ := headOk_n hh
  have hsz : sizeV (.mk d.sort d.on d.n d.text (d.list.map VD.v) d.keys) ≤ 1048576 := by rw [← VD.v_eq]; exact hs
  obtain ⟨s1, -⟩ := size_parts hsz
  have ht : textV d.v = if d.sort = 1 then (if d.on then trueL else falseL) else if d.sort = 2 then Lib.itoa d.n else if d.sort = 3 then quoted d.text else nullL := by
    rw [VD.v_eq, textV]
    by_cases a : d.sort = 1
    · simp [a]
    by_cases b : d.sort = 2
    · simp [b]
    by_cases c : d.sort = 3
    · simp [c]
    have : d.sort = 0 := by omega
    simp [this]
  generalize textV d.v = T at *
  have hb := below_a1 w (.cells #[.int .i64 d.sort, .bool d.on, .int .i64 d.n, .string ⟨d.text.toArray⟩, .slice d.a d.list.length d.c, .slice d.ka d.keys.length d.kc] 26)
  have HB := Lib.hid hb
  have HT := Lib.hid ht
  have HN := Lib.hid (And.intro hn1 hn2)
  rw [VD.val6]
  generalize hsd : d.sort = sd at *
  clear hb ht hh hsz hs hf hn1 hn2 hsd
  by_cases a1 : sd = 1
  · subst a1
    have Ht : Hid (T = if d.on then trueL else falseL) := Lib.hid (by rw [HT.out]; rfl)
    clear HT
    generalize d.on = on at *
    cases on with
    | true =>
      have Ht2 : Hid (T = trueL) := Ht
      clear Ht
      go_enter Tryz.func21, Tryz.ntmps21
      go_wp2
      go_ret
      exact ⟨by rw [Ht2.out]; rfl, HB.out⟩
    | false =>
      have Ht2 : Hid (T = falseL) := Ht
      clear Ht
      go_enter Tryz.func21, Tryz.ntmps21
      go_wp2
      go_ret
      exact ⟨by rw [Ht2.out]; rfl, HB.out⟩
  by_cases a2 : sd = 2
  · subst a2
    have Ht : Hid (T = Lib.itoa d.n) := Lib.hid (by rw [HT.out]; rfl)
    clear HT
    go_enter Tryz.func21, Tryz.ntmps21
    go_wp2_with fail
    refine (digits_any d.n _ HN.out.1 HN.out.2).mono ?_
    rintro e w2 ⟨rfl, rfl⟩
    go_wp2
    go_ret
    exact ⟨by rw [Ht.out]; rfl, HB.out⟩
  by_cases a3 : sd = 3
  · subst a3
    have Ht : Hid (T = quoted d.text) := Lib.hid (by rw [HT.out]; rfl)
    clear HT
    go_enter Tryz.func21, Tryz.ntmps21
    go_wp2_with fail
    refine (quotedR_any d.text _ (by omega)).mono ?_
    rintro e w2 ⟨rfl, hb2⟩
    have HB2 := Lib.hid (HB.out.trans (hb2.mono HB.out.size))
    clear hb2
    go_wp2
    go_ret
    exact ⟨by rw [Ht.out]; rfl, HB2.out⟩
  obtain rfl : sd = 0 := by omega
  have Ht : Hid (T = nullL) := Lib.hid (by rw [HT.out]; rfl)
  clear HT a1 a2 a3
  go_enter Tryz.func21, Tryz.ntmps21
  go_wp2
  go_ret
  exact ⟨by rw [Ht.out]; rfl, HB.out⟩
theorem val_cells {wr W : World} {b o : Nat} {x : VD} (hW : Below wr.heap.size wr W) (v0 : wr.cell? ⟨b, o, none⟩ = some (.int .i64 x.sort)) (v1 : wr.cell? ⟨b, o + 1, none⟩ = some (.bool x.on)) (v2 : wr.cell? ⟨b, o + 2, none⟩ = some (.int .i64 x.n)) (v3 : wr.cell? ⟨b, o + 3, none⟩ = some (strV x.text)) (v4 : wr.cell? ⟨b, o + 4, none⟩ = some (.slice x.a x.list.length x.c)) (v5 : wr.cell? ⟨b, o + 5, none⟩ = some (.slice x.ka x.keys.length x.kc)) :
    W.cell? ⟨b, o, none⟩ = some (.int .i64 x.sort) ∧ W.cell? ⟨b, o + 1, none⟩ = some (.bool x.on) ∧ W.cell? ⟨b, o + 2, none⟩ = some (.int .i64 x.n) ∧ W.cell? ⟨b, o + 3, none⟩ = some (.string ⟨x.text.toArray⟩) ∧ W.cell? ⟨b, o + 4, none⟩ = some (.slice x.a x.list.length x.c) ∧ W.cell? ⟨b, o + 5, none⟩ = some (.slice x.ka x.keys.length x.kc) :=
  ⟨below_ext hW v0, below_ext hW v1, below_ext hW v2, below_ext hW v3, below_ext hW v4, below_ext hW v5⟩

set_option maxHeartbeats 8000000 in
theorem textR_list (d : VD) (w : World) (hv : ValAt w (fun _ => True) d) (hf : formed d.v = true) (hs : sizeV d.v ≤ 1048576) (h4 : d.sort = 4) (IH : ∀ x ∈ d.list, TextRAt x) : Calls Tryz.prog 21 #[d.val] w (fun e w' => e = .returned (.string ⟨(textV d.v).toArray⟩) ∧ Below w.heap.size w w') := by
  have htl := textV_len d.v hf
  obtain ⟨hh, hfk⟩ := formed_head hf
  obtain ⟨-, -, hn5⟩ := headOk_n hh
  have hsz : sizeV (.mk d.sort d.on d.n d.text (d.list.map VD.v) d.keys) ≤ 1048576 := by rw [← VD.v_eq]; exact hs
  obtain ⟨-, s2, s3, s4, s5⟩ := size_parts hsz
  rw [List.length_map] at s3
  have ht : textV d.v = 91 :: (commas (partsT d) ++ [93]) := by rw [VD.v_eq, textV]; unfold partsT; simp [h4]
  have hjl : (commas (partsT d)).length ≤ 20971520 := by
    rw [ht] at htl
    simp only [List.length_cons, List.length_append, List.length_nil] at htl
    omega
  have hpl := partsT_len d
  have HJL : Hid (∀ k, (commas ((partsT d).take k)).length ≤ 20971520) := Lib.hid fun k => Nat.le_trans (commas_take _ k) hjl
  have HFK := Lib.hid hfk
  have HV := Lib.hid hv
  have S4 := Lib.hid s4
  have S5 : Hid (∀ x ∈ d.list, sizeV x.v ≤ 1048576) := Lib.hid fun x hx => s5 _ (List.mem_map_of_mem hx)
  have HI := Lib.hid IH
  have HPT : Hid (∀ (k : Nat) (x : VD), d.list[k]? = some x → (partsT d)[k]? = some (textV x.v)) := Lib.hid (by
    intro k x hx
    unfold partsT
    rw [if_neg (by omega), textsV_map, List.getElem?_map, List.getElem?_map, hx]; rfl
)
  have hkl := Lib.hid (hn5)
  obtain ⟨W0, hW0⟩ : ∃ W0, W0 = w.alloc (.cells #[.int .i64 4, .bool d.on, .int .i64 d.n, .string ⟨d.text.toArray⟩, .slice d.a d.list.length d.c, .slice d.ka d.keys.length d.kc] 26) := ⟨_, rfl⟩
  have HBL : Hid (Blk W0 w.heap.size #[.int .i64 4, .bool d.on, .int .i64 d.n, .string ⟨d.text.toArray⟩, .slice d.a d.list.length d.c, .slice d.ka d.keys.length d.kc] 26) := Lib.hid (by rw [hW0]; exact Blk.new rfl)
  have HB0 : Hid (Below w.heap.size w W0) := Lib.hid (by rw [hW0]; exact below_a1 _ _)
  rw [VD.val6, h4, ht]
  obtain ⟨T, hT⟩ : ∃ T, T = commas (partsT d) := ⟨_, rfl⟩
  rw [← hT]
  have HC := Lib.hid hT
  obtain ⟨ea, hea⟩ : ∃ ea, ea = d.a := ⟨_, rfl⟩
  obtain ⟨eka, heka⟩ : ∃ ea, ea = d.ka := ⟨_, rfl⟩
  obtain ⟨nk, hnk⟩ : ∃ nk, nk = d.keys.length := ⟨_, rfl⟩
  rw [← hea, ← heka, ← hnk] at hW0 HBL ⊢
  have HEA := Lib.hid hea
  have HEK := Lib.hid heka
  have HNK := Lib.hid hnk
  have H4 := Lib.hid h4
  clear hea heka hnk
  clear hv hf hs hfk hh hn5 hsz s4 s5 hjl ht htl h4 IH hT
  go_enter Tryz.func21, Tryz.ntmps21
  go_upto_region 1 with (fail)
  rw [← hW0]
  clear hW0
  obtain ⟨c0, c1, c2, c3, c4, c5⟩ := HBL.out.sixT
  go_wp2_with fail
  clear c0 c1 c2 c3 c4 c5
  go_loopw [3, 4] (fun o i wr => ∃ (k : Nat) (A : ByteArray), k ≤ d.list.length ∧ i = .int .i64 k ∧ o = .string A ∧ A.size ≤ 20971520 ∧ Hid (A = ⟨(commas ((partsT d).take k)).toArray⟩) ∧ Hid (Below W0.heap.size W0 wr)) (fun _ i _ => d.list.length - (intOf i).toNat)
  case atStart => exact ⟨0, _, Nat.zero_le _, rfl, rfl, by decide, Lib.hid (by simp [commas]), Lib.hid (Below.refl _ _)⟩
  case round =>
    obtain ⟨k, A, hk, rfl, rfl, hA, HA, hb⟩ := hrel
    by_cases hlt : k < d.list.length
    · obtain ⟨x, hx⟩ := get_some hlt
      have hxm : x ∈ d.list := List.mem_of_getElem? hx
      have HBw := Lib.hid (HB0.out.trans (hb.out.mono HB0.out.size))
      obtain ⟨b, off, hda, v0, v1, v2, v3, v4, v5⟩ := val_at (HV.out.ext HBw.out).row hx
      rw [← HEA.out] at hda
      subst hda
      have HVX := Lib.hid (fun (W : World) (hW : Below wr.heap.size wr W) => val_cells (hW := hW) v0 v1 v2 v3 v4 v5)
      clear v0 v1 v2 v3 v4 v5
      have hP := HPT.out k x hx
      have HN := Lib.hid (commas_next hP)
      have hjn := HJL.out (k + 1)
      have htx := fun W (hb : Below w.heap.size w W) => HI.out x hxm W ((HV.out.kid x hxm).ext hb) (HFK.out x hxm) (S5.out x hxm)
      rw [VD.val6] at htx
      have HX := Lib.hid htx
      have hxl : (textV x.v).length ≤ 20971520 := by have h1 := textV_len x.v (HFK.out x hxm); have h2 := S5.out x hxm; omega
      clear hx htx hP
      generalize textV x.v = tx at *
      have hkz : k ≤ 1048576 := by omega
      by_cases hz : k = 0
      · skip
        have hk0 : ¬ ((0 : Int) < (k : Int)) := by omega
        have HZ := Lib.hid hz
        clear hz
        obtain ⟨c0, c1, c2, c3, c4, c5⟩ := (HBL.out.ext hb.out).sixT
        obtain ⟨v0, v1, v2, v3, v4, v5⟩ := HVX.out wr (Below.refl _ _)
        go_wp2_with fail
        refine (HX.out _ (HB0.out.trans (hb.out.mono HB0.out.size))).mono ?_
        rintro e w3 ⟨rfl, hb3⟩
        have Hb3 := Lib.hid (hb.out.trans (hb3.mono hb.out.size))
        clear c0 c1 c2 c3 c4 c5 v0 v1 v2 v3 v4 v5 hb3 HX
        generalize hzt : (⟨tx.toArray⟩ : ByteArray) = zt at *
        have hzs : zt.size ≤ 20971520 := by rw [← hzt, size_nm]; exact hxl
        have HF : Hid (A ++ zt = ⟨(commas ((partsT d).take (k + 1))).toArray⟩) := Lib.hid (by
          rw [← hzt, HN.out, if_pos HZ.out]
          have hA0 : A = ⟨([] : Nm).toArray⟩ := by rw [HA.out, HZ.out]; rfl
          rw [hA0]
          simp only [cat_nm]
          congr 2
          try simp)
        have hfs : (A ++ zt).size ≤ 20971520 := by rw [HF.out, size_nm]; exact hjn
        clear hzt
        go_wp2
        go_roundw
        case rel => exact ⟨k + 1, _, by omega, by go_num, rfl, hfs, HF, Hb3⟩
        case measure => simp [intOf]; omega
      · skip
        have hk0 : (0 : Int) < (k : Int) := by omega
        obtain ⟨c0, c1, c2, c3, c4, c5⟩ := (HBL.out.ext hb.out).sixT
        obtain ⟨v0, v1, v2, v3, v4, v5⟩ := HVX.out wr (Below.refl _ _)
        go_wp2_with fail
        refine (HX.out _ (HB0.out.trans (hb.out.mono HB0.out.size))).mono ?_
        rintro e w3 ⟨rfl, hb3⟩
        have Hb3 := Lib.hid (hb.out.trans (hb3.mono hb.out.size))
        clear c0 c1 c2 c3 c4 c5 v0 v1 v2 v3 v4 v5 hb3 HX
        generalize hzt : (⟨tx.toArray⟩ : ByteArray) = zt at *
        have hzs : zt.size ≤ 20971520 := by rw [← hzt, size_nm]; exact hxl
        have HF : Hid ((A ++ (⟨#[44]⟩ : ByteArray)) ++ zt = ⟨(commas ((partsT d).take (k + 1))).toArray⟩) := Lib.hid (by
          rw [← hzt, HN.out, if_neg (by omega)]
          rw [HA.out]
          rw [show (⟨#[44]⟩ : ByteArray) = ⟨([44] : Nm).toArray⟩ from rfl]
          simp only [cat_nm]
          congr 2
          try simp)
        have hfs : ((A ++ (⟨#[44]⟩ : ByteArray)) ++ zt).size ≤ 20971520 := by rw [HF.out, size_nm]; exact hjn
        clear hzt
        go_wp2
        go_roundw
        case rel => exact ⟨k + 1, _, by omega, by go_num, rfl, hfs, HF, Hb3⟩
        case measure => simp [intOf]; omega
    · obtain rfl : k = d.list.length := by omega
      have HQ : Hid ((⟨#[91]⟩ : ByteArray) ++ A ++ (⟨#[93]⟩ : ByteArray) = ⟨(91 :: (T ++ [93])).toArray⟩) := Lib.hid (by
        rw [HA.out, List.take_of_length_le (by omega), HC.out, show (⟨#[91]⟩ : ByteArray) = ⟨([91] : Nm).toArray⟩ from rfl, show (⟨#[93]⟩ : ByteArray) = ⟨([93] : Nm).toArray⟩ from rfl, cat_nm, cat_nm]; rfl)
      obtain ⟨c0, c1, c2, c3, c4, c5⟩ := (HBL.out.ext hb.out).sixT
      go_wp2
      go_ret
      exact ⟨by rw [← HQ.out]; rfl, HB0.out.trans (hb.out.mono HB0.out.size)⟩

set_option maxHeartbeats 8000000 in
theorem textR_rec (d : VD) (w : World) (hv : ValAt w (fun _ => True) d) (hf : formed d.v = true) (hs : sizeV d.v ≤ 1048576) (h4 : d.sort = 5) (IH : ∀ x ∈ d.list, TextRAt x) : Calls Tryz.prog 21 #[d.val] w (fun e w' => e = .returned (.string ⟨(textV d.v).toArray⟩) ∧ Below w.heap.size w w') := by
  have htl := textV_len d.v hf
  obtain ⟨hh, hfk⟩ := formed_head hf
  obtain ⟨-, -, hn5⟩ := headOk_n hh
  have hsz : sizeV (.mk d.sort d.on d.n d.text (d.list.map VD.v) d.keys) ≤ 1048576 := by rw [← VD.v_eq]; exact hs
  obtain ⟨-, s2, s3, s4, s5⟩ := size_parts hsz
  rw [List.length_map] at s3
  have ht : textV d.v = 123 :: (commas (partsT d) ++ [125]) := by rw [VD.v_eq, textV]; unfold partsT; simp [h4]
  have hjl : (commas (partsT d)).length ≤ 20971520 := by
    rw [ht] at htl
    simp only [List.length_cons, List.length_append, List.length_nil] at htl
    omega
  have hpl := partsT_len d
  have HJL : Hid (∀ k, (commas ((partsT d).take k)).length ≤ 20971520) := Lib.hid fun k => Nat.le_trans (commas_take _ k) hjl
  have HFK := Lib.hid hfk
  have HV := Lib.hid hv
  have S4 := Lib.hid s4
  have S5 : Hid (∀ x ∈ d.list, sizeV x.v ≤ 1048576) := Lib.hid fun x hx => s5 _ (List.mem_map_of_mem hx)
  have HI := Lib.hid IH
  have HPT : Hid (∀ (k : Nat) (x : VD), d.list[k]? = some x → ∀ y, d.keys[k]? = some y → (partsT d)[k]? = some (quoted y ++ 58 :: textV x.v)) := Lib.hid (by
    intro k x hx y hy
    unfold partsT
    rw [if_pos h4]
    exact textKs_at _ _ k (by rw [List.getElem?_map, hx]; rfl) hy)
  have hkl := Lib.hid (hn5)
  obtain ⟨W0, hW0⟩ : ∃ W0, W0 = w.alloc (.cells #[.int .i64 5, .bool d.on, .int .i64 d.n, .string ⟨d.text.toArray⟩, .slice d.a d.list.length d.c, .slice d.ka d.keys.length d.kc] 26) := ⟨_, rfl⟩
  have HBL : Hid (Blk W0 w.heap.size #[.int .i64 5, .bool d.on, .int .i64 d.n, .string ⟨d.text.toArray⟩, .slice d.a d.list.length d.c, .slice d.ka d.keys.length d.kc] 26) := Lib.hid (by rw [hW0]; exact Blk.new rfl)
  have HB0 : Hid (Below w.heap.size w W0) := Lib.hid (by rw [hW0]; exact below_a1 _ _)
  rw [VD.val6, h4, ht]
  obtain ⟨T, hT⟩ : ∃ T, T = commas (partsT d) := ⟨_, rfl⟩
  rw [← hT]
  have HC := Lib.hid hT
  obtain ⟨ea, hea⟩ : ∃ ea, ea = d.a := ⟨_, rfl⟩
  obtain ⟨eka, heka⟩ : ∃ ea, ea = d.ka := ⟨_, rfl⟩
  obtain ⟨nk, hnk⟩ : ∃ nk, nk = d.keys.length := ⟨_, rfl⟩
  rw [← hea, ← heka, ← hnk] at hW0 HBL ⊢
  have HEA := Lib.hid hea
  have HEK := Lib.hid heka
  have HNK := Lib.hid hnk
  have H4 := Lib.hid h4
  clear hea heka hnk
  clear hv hf hs hfk hh hn5 hsz s4 s5 hjl ht htl h4 IH hT
  go_enter Tryz.func21, Tryz.ntmps21
  go_upto_region 1 with (fail)
  rw [← hW0]
  clear hW0
  obtain ⟨c0, c1, c2, c3, c4, c5⟩ := HBL.out.sixT
  go_wp2_with fail
  clear c0 c1 c2 c3 c4 c5
  go_loopw [3, 4] (fun o i wr => ∃ (k : Nat) (A : ByteArray), k ≤ d.list.length ∧ i = .int .i64 k ∧ o = .string A ∧ A.size ≤ 20971520 ∧ Hid (A = ⟨(commas ((partsT d).take k)).toArray⟩) ∧ Hid (Below W0.heap.size W0 wr)) (fun _ i _ => d.list.length - (intOf i).toNat)
  case atStart => exact ⟨0, _, Nat.zero_le _, rfl, rfl, by decide, Lib.hid (by simp [commas]), Lib.hid (Below.refl _ _)⟩
  case round =>
    obtain ⟨k, A, hk, rfl, rfl, hA, HA, hb⟩ := hrel
    by_cases hlt : k < d.list.length
    · obtain ⟨x, hx⟩ := get_some hlt
      have hxm : x ∈ d.list := List.mem_of_getElem? hx
      have HBw := Lib.hid (HB0.out.trans (hb.out.mono HB0.out.size))
      obtain ⟨b, off, hda, v0, v1, v2, v3, v4, v5⟩ := val_at (HV.out.ext HBw.out).row hx
      rw [← HEA.out] at hda
      subst hda
      have HVX := Lib.hid (fun (W : World) (hW : Below wr.heap.size wr W) => val_cells (hW := hW) v0 v1 v2 v3 v4 v5)
      clear v0 v1 v2 v3 v4 v5
      obtain ⟨y, hy⟩ := get_some (l := d.keys) (i := k) (by have := hkl.out H4.out; omega)
      have hyl := S4.out y (List.mem_of_getElem? hy)
      have Hy := Lib.hid hy
      have hin2 : (k : Int) < nk := by have := hkl.out H4.out; have := HNK.out; omega
      have hP := HPT.out k x hx y hy
      have hyv := (HV.out.ext HBw.out).krow.elem1 hy
      obtain ⟨kb, koff, hka, y0⟩ := hyv
      rw [← HEK.out] at hka
      subst hka
      unfold strV at y0
      have HN := Lib.hid (commas_next hP)
      clear hy
      have hjn := HJL.out (k + 1)
      have htx := fun W (hb : Below w.heap.size w W) => HI.out x hxm W ((HV.out.kid x hxm).ext hb) (HFK.out x hxm) (S5.out x hxm)
      rw [VD.val6] at htx
      have HX := Lib.hid htx
      have hxl : (textV x.v).length ≤ 20971520 := by have h1 := textV_len x.v (HFK.out x hxm); have h2 := S5.out x hxm; omega
      clear hx htx hP
      generalize textV x.v = tx at *
      have hkz : k ≤ 1048576 := by omega
      by_cases hz : k = 0
      · skip
        have hk0 : ¬ ((0 : Int) < (k : Int)) := by omega
        have HZ := Lib.hid hz
        clear hz
        obtain ⟨c0, c1, c2, c3, c4, c5⟩ := (HBL.out.ext hb.out).sixT
        go_wp2_with fail
        refine (quotedR_any y wr (by omega)).mono ?_
        rintro e w2 ⟨rfl, hb2⟩
        have HB2 : Hid (Below wr.heap.size wr w2) := Lib.hid hb2
        have Hb2 := Lib.hid (hb.out.trans (hb2.mono hb.out.size))
        clear c0 c1 c2 c3 c4 c5 y0 hb2
        have hql : (quoted y).length ≤ 6291458 := by have := quoted_len y; omega
        generalize quoted y = qy at *
        generalize hqz : (⟨qy.toArray⟩ : ByteArray) = qz at *
        have hqs : qz.size ≤ 6291458 := by rw [← hqz, size_nm]; exact hql
        have HQZ := Lib.hid hqz
        clear hqz hql
        obtain ⟨c0, c1, c2, c3, c4, c5⟩ := (HBL.out.ext Hb2.out).sixT
        obtain ⟨v0, v1, v2, v3, v4, v5⟩ := HVX.out w2 HB2.out
        go_wp2_with fail
        refine (HX.out _ (HB0.out.trans (Hb2.out.mono HB0.out.size))).mono ?_
        rintro e w3 ⟨rfl, hb3⟩
        have Hb3 := Lib.hid (Hb2.out.trans (hb3.mono Hb2.out.size))
        clear c0 c1 c2 c3 c4 c5 v0 v1 v2 v3 v4 v5 hb3 HX
        generalize hzt : (⟨tx.toArray⟩ : ByteArray) = zt at *
        have hzs : zt.size ≤ 20971520 := by rw [← hzt, size_nm]; exact hxl
        have HF : Hid ((A ++ qz ++ (⟨#[58]⟩ : ByteArray)) ++ zt = ⟨(commas ((partsT d).take (k + 1))).toArray⟩) := Lib.hid (by
          rw [← hzt, HN.out, if_pos HZ.out, ← HQZ.out]
          have hA0 : A = ⟨([] : Nm).toArray⟩ := by rw [HA.out, HZ.out]; rfl
          rw [hA0]
          rw [show (⟨#[58]⟩ : ByteArray) = ⟨([58] : Nm).toArray⟩ from rfl]
          simp only [cat_nm]
          congr 2
          try simp)
        have hfs : ((A ++ qz ++ (⟨#[58]⟩ : ByteArray)) ++ zt).size ≤ 20971520 := by rw [HF.out, size_nm]; exact hjn
        clear hzt
        go_wp2
        go_roundw
        case rel => exact ⟨k + 1, _, by omega, by go_num, rfl, hfs, HF, Hb3⟩
        case measure => simp [intOf]; omega
      · skip
        have hk0 : (0 : Int) < (k : Int) := by omega
        obtain ⟨c0, c1, c2, c3, c4, c5⟩ := (HBL.out.ext hb.out).sixT
        go_wp2_with fail
        refine (quotedR_any y wr (by omega)).mono ?_
        rintro e w2 ⟨rfl, hb2⟩
        have HB2 : Hid (Below wr.heap.size wr w2) := Lib.hid hb2
        have Hb2 := Lib.hid (hb.out.trans (hb2.mono hb.out.size))
        clear c0 c1 c2 c3 c4 c5 y0 hb2
        have hql : (quoted y).length ≤ 6291458 := by have := quoted_len y; omega
        generalize quoted y = qy at *
        generalize hqz : (⟨qy.toArray⟩ : ByteArray) = qz at *
        have hqs : qz.size ≤ 6291458 := by rw [← hqz, size_nm]; exact hql
        have HQZ := Lib.hid hqz
        clear hqz hql
        obtain ⟨c0, c1, c2, c3, c4, c5⟩ := (HBL.out.ext Hb2.out).sixT
        obtain ⟨v0, v1, v2, v3, v4, v5⟩ := HVX.out w2 HB2.out
        go_wp2_with fail
        refine (HX.out _ (HB0.out.trans (Hb2.out.mono HB0.out.size))).mono ?_
        rintro e w3 ⟨rfl, hb3⟩
        have Hb3 := Lib.hid (Hb2.out.trans (hb3.mono Hb2.out.size))
        clear c0 c1 c2 c3 c4 c5 v0 v1 v2 v3 v4 v5 hb3 HX
        generalize hzt : (⟨tx.toArray⟩ : ByteArray) = zt at *
        have hzs : zt.size ≤ 20971520 := by rw [← hzt, size_nm]; exact hxl
        have HF : Hid (((A ++ (⟨#[44]⟩ : ByteArray)) ++ qz ++ (⟨#[58]⟩ : ByteArray)) ++ zt = ⟨(commas ((partsT d).take (k + 1))).toArray⟩) := Lib.hid (by
          rw [← hzt, HN.out, if_neg (by omega), ← HQZ.out]
          rw [HA.out]
          rw [show (⟨#[44]⟩ : ByteArray) = ⟨([44] : Nm).toArray⟩ from rfl]
          rw [show (⟨#[58]⟩ : ByteArray) = ⟨([58] : Nm).toArray⟩ from rfl]
          simp only [cat_nm]
          congr 2
          try simp)
        have hfs : (((A ++ (⟨#[44]⟩ : ByteArray)) ++ qz ++ (⟨#[58]⟩ : ByteArray)) ++ zt).size ≤ 20971520 := by rw [HF.out, size_nm]; exact hjn
        clear hzt
        go_wp2
        go_roundw
        case rel => exact ⟨k + 1, _, by omega, by go_num, rfl, hfs, HF, Hb3⟩
        case measure => simp [intOf]; omega
    · obtain rfl : k = d.list.length := by omega
      have HQ : Hid ((⟨#[123]⟩ : ByteArray) ++ A ++ (⟨#[125]⟩ : ByteArray) = ⟨(123 :: (T ++ [125])).toArray⟩) := Lib.hid (by
        rw [HA.out, List.take_of_length_le (by omega), HC.out, show (⟨#[123]⟩ : ByteArray) = ⟨([123] : Nm).toArray⟩ from rfl, show (⟨#[125]⟩ : ByteArray) = ⟨([125] : Nm).toArray⟩ from rfl, cat_nm, cat_nm]; rfl)
      obtain ⟨c0, c1, c2, c3, c4, c5⟩ := (HBL.out.ext hb.out).sixT
      go_wp2
      go_ret
      exact ⟨by rw [← HQ.out]; rfl, HB0.out.trans (hb.out.mono HB0.out.size)⟩

theorem textR_any : ∀ d : VD, TextRAt d := by
  intro d
  induction d using VD.ind with
  | h s o n t a c l ka kc ks ih =>
    intro w hv hf hs
    by_cases h4 : s < 4
    · exact textR_leaf _ w hf hs h4
    · have hss := headOk_sort (formed_head hf).1
      by_cases h5 : s = 4
      · exact textR_list _ w hv hf hs h5 ih
      · exact textR_rec _ w hv hf hs (by have : s ≤ 5 := hss.2; show s = 5; omega) ih
end Go.Proofs.YtahiopjplfnlmaaGreatDoor
