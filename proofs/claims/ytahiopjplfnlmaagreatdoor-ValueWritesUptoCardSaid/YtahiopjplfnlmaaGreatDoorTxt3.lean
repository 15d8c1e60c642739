/- A list's text, and a record's: walked. -/
import Derived.Test.YtahiopjplfnlmaaGreatDoorTxt2
namespace Go.Proofs.YtahiopjplfnlmaaGreatDoor
open Go Go.RowKit

theorem VD.tmp (d : VD) : d.val = .agg #[.int .i64 d.sort, .bool d.on, .int .i64 d.n, .string ⟨d.text.toArray⟩, .slice d.a d.list.length d.c, .slice d.ka d.keys.length d.kc] := VD.val6 d

set_option maxHeartbeats 4000000 in
theorem text_list (d : VD) (w : World) (hG : Glob w) (hv : ValAt w (fun _ => True) d) (hf : formed d.v = true) (hs : sizeV d.v ≤ 1048576) (h4 : d.sort = 4) (IH : ∀ x ∈ d.list, TextAt x) : Calls Tryz.prog 20 #[d.val] w (fun e w' => e = .returned (.string ⟨(textV d.v).toArray⟩) ∧ Below w.heap.size w w') := by
  have htl := textV_len d.v hf
  obtain ⟨hh, hfk⟩ := formed_head hf
  obtain ⟨-, -, hn5⟩ := headOk_n hh
  have hsz : sizeV (.mk d.sort d.on d.n d.text (d.list.map VD.v) d.keys) ≤ 1048576 := by rw [← VD.v_eq]; exact hs
  obtain ⟨-, s2, s3, s4, s5⟩ := size_parts hsz
  rw [List.length_map] at s3
  have ht : textV d.v = 91 :: (commas (partsT d) ++ [93]) := by rw [VD.v_eq, textV]; unfold partsT; simp [h4]
  have hjl : (commas (partsT d)).length ≤ 140737488355328 := by
    rw [ht] at htl
    simp only [List.length_cons, List.length_append, List.length_nil] at htl
    omega
  have hpl := partsT_len d
  have HJL := Lib.hid hjl
  have HFK := Lib.hid hfk
  have HV := Lib.hid hv
  have HG := Lib.hid hG
  have S4 := Lib.hid s4
  have S5 : Hid (∀ x ∈ d.list, sizeV x.v ≤ 1048576) := Lib.hid fun x hx => s5 _ (List.mem_map_of_mem hx)
  have HI := Lib.hid IH
  have HPT : Hid (∀ (k : Nat) (x : VD), d.list[k]? = some x → (partsT d)[k]? = some (textV x.v)) := Lib.hid (by
    intro k x hx
    unfold partsT
    rw [if_neg (by omega), textsV_map, List.getElem?_map, List.getElem?_map, hx]; rfl
)
  skip
  obtain ⟨W0, hW0⟩ : ∃ W0, W0 = w.alloc (.cells #[.int .i64 4, .bool d.on, .int .i64 d.n, .string ⟨d.text.toArray⟩, .slice d.a d.list.length d.c, .slice d.ka d.keys.length d.kc] 34) := ⟨_, rfl⟩
  have HT0 : Hid (TB w W0 d none 0 0) := Lib.hid (by rw [hW0]; exact ⟨by rw [h4]; exact Blk.new rfl, Own.nil _ _ _ _, below_a1 _ _⟩)
  rw [VD.val6, h4, ht]
  obtain ⟨T, hT⟩ : ∃ T, T = commas (partsT d) := ⟨_, rfl⟩
  rw [← hT] at HJL ⊢
  have HC := Lib.hid hT
  have H4 := Lib.hid h4
  obtain ⟨ea, hea⟩ : ∃ ea, ea = d.a := ⟨_, rfl⟩
  obtain ⟨eka, heka⟩ : ∃ ea, ea = d.ka := ⟨_, rfl⟩
  obtain ⟨nk, hnk⟩ : ∃ nk, nk = d.keys.length := ⟨_, rfl⟩
  rw [← hea, ← heka, ← hnk] at hW0 ⊢
  have HEA := Lib.hid hea
  have HEK := Lib.hid heka
  have HNK := Lib.hid hnk
  clear hea heka hnk
  clear hv hG hf hs hfk hh hn5 hsz s4 s5 hjl ht htl h4 IH hT
  go_enter Tryz.func20, Tryz.ntmps20
  go_upto_region 11 with (fail)
  rw [← hW0]
  clear hW0
  obtain ⟨c0, c1, c2, c3, c4, c5⟩ := HT0.out.val.six
  rw [H4.out] at c0
  rw [← HEA.out] at c4
  rw [← HEK.out, ← HNK.out] at c5
  go_wp2_with fail
  clear c0 c1 c2 c3 c4 c5
  go_loopw [3, 29] (fun p i wr => ∃ (k : Nat) (a : Option Addr) (c : Nat), k ≤ d.list.length ∧ i = .int .i64 k ∧ p = .slice a k c ∧ Hid (TB w wr d a k c)) (fun _ i _ => d.list.length - (intOf i).toNat)
  case atStart => exact ⟨0, none, 0, Nat.zero_le _, rfl, rfl, HT0⟩
  case round =>
    obtain ⟨k, a, c, hk, rfl, rfl, HT⟩ := hrel
    by_cases hlt : k < d.list.length
    · obtain ⟨x, hx⟩ := get_some hlt
      have hxm : x ∈ d.list := List.mem_of_getElem? hx
      have hva := HV.out.ext HT.out.below
      obtain ⟨b, off, hda, v0, v1, v2, v3, v4, v5⟩ := val_at hva.row hx
      rw [← HEA.out] at hda
      subst hda
      unfold strV at v3
      have hin : (k : Int) < d.list.length := by omega
      have HP : Hid ((partsT d)[k]? = some (textV x.v)) := Lib.hid (HPT.out k x hx)
      have htx := fun W (hb : Below w.heap.size w W) => HI.out x hxm W (HG.out.ext hb) ((HV.out.kid x hxm).ext hb) (HFK.out x hxm) (S5.out x hxm)
      rw [VD.val6] at htx
      have HX := Lib.hid htx
      have hxl : (textV x.v).length ≤ 20971520 := by have h1 := textV_len x.v (HFK.out x hxm); have h2 := S5.out x hxm; omega
      have hws := HT.out.below.size
      have hwl := HT.out.val.lt
      have hcap := HT.out.own.le
      clear hx htx hva
      obtain ⟨c0, c1, c2, c3, c4, c5⟩ := HT.out.val.six
      rw [H4.out] at c0
      rw [← HEA.out] at c4
      rw [← HEK.out, ← HNK.out] at c5
      go_wp2_with fail
      refine (HX.out _ (HT.out.below.alloc hws _)).mono ?_
      rintro e w2 ⟨rfl, hb2⟩
      have ht2 := HT.out.ext ((below_a1 _ _).trans (hb2.mono (by simp)))
      have HT2 := Lib.hid ht2
      clear c0 c1 c2 c3 c4 c5 v0 v1 v2 v3 v4 v5 hb2 ht2 HX
      obtain ⟨c0, c1, c2, c3, c4, c5⟩ := HT2.out.val.six
      rw [H4.out] at c0
      rw [← HEA.out] at c4
      rw [← HEK.out, ← HNK.out] at c5
      generalize textV x.v = tx at *
      have hcap2 := HT2.out.own.le
      go_wp2_with (at_builtin; refine wpList_append_Own rfl _ _ 24 rfl (w.heap.size + 1) 9 _ 1 16 Tryz.underlying24 Tryz.infoStr rfl (by decide) a k c _ rfl (by exact HT2.out.own.alloc _) _ 1 1 [.string ⟨tx.toArray⟩] rfl (Row.new1 (by simp) rfl rfl) (by intro u hu; simp at hu; subst hu; rfl) (by unfold maxLen; omega) (by omega) (by have := HT2.out.val.lt; simp; omega) ?_; intro a5 c5 w5 ho5 hg5 hb5; have HT5 := Lib.hid (HT2.out.push HP.out ho5 hg5); clear ho5 hg5 hb5)
      go_roundw
      case rel => exact ⟨k + 1, a5, c5, by omega, by go_num, rfl, HT5⟩
      case measure => simp [intOf]; omega
    · obtain rfl : k = d.list.length := by omega
      obtain ⟨c0, c1, c2, c3, c4, c5⟩ := HT.out.val.six
      rw [H4.out] at c0
      rw [← HEA.out] at c4
      rw [← HEK.out, ← HNK.out] at c5
      have hown := HT.out.own
      rw [List.take_of_length_le (by omega)] at hown
      have hrow := hown.row
      have hbt := between_any 91 93 a c (partsT d) wr (by rw [hpl]; exact hrow) (by omega) (by rw [hpl]; exact hown.le) (by rw [← HC.out]; exact HJL.out)
      rw [hpl, ← HC.out] at hbt
      have HBT := Lib.hid hbt
      clear hown hrow hbt
      go_wp2_with fail
      refine HBT.out.mono ?_
      rintro e w2 ⟨rfl, hb2⟩
      have HB2 := Lib.hid (HT.out.below.trans (hb2.mono HT.out.below.size))
      clear hb2 HBT
      go_wp2
      go_ret
      exact ⟨rfl, HB2.out⟩

set_option maxHeartbeats 4000000 in
theorem text_rec (d : VD) (w : World) (hG : Glob w) (hv : ValAt w (fun _ => True) d) (hf : formed d.v = true) (hs : sizeV d.v ≤ 1048576) (h4 : d.sort = 5) (IH : ∀ x ∈ d.list, TextAt x) : Calls Tryz.prog 20 #[d.val] w (fun e w' => e = .returned (.string ⟨(textV d.v).toArray⟩) ∧ Below w.heap.size w w') := by
  have htl := textV_len d.v hf
  obtain ⟨hh, hfk⟩ := formed_head hf
  obtain ⟨-, -, hn5⟩ := headOk_n hh
  have hsz : sizeV (.mk d.sort d.on d.n d.text (d.list.map VD.v) d.keys) ≤ 1048576 := by rw [← VD.v_eq]; exact hs
  obtain ⟨-, s2, s3, s4, s5⟩ := size_parts hsz
  rw [List.length_map] at s3
  have ht : textV d.v = 123 :: (commas (partsT d) ++ [125]) := by rw [VD.v_eq, textV]; unfold partsT; simp [h4]
  have hjl : (commas (partsT d)).length ≤ 140737488355328 := by
    rw [ht] at htl
    simp only [List.length_cons, List.length_append, List.length_nil] at htl
    omega
  have hpl := partsT_len d
  have HJL := Lib.hid hjl
  have HFK := Lib.hid hfk
  have HV := Lib.hid hv
  have HG := Lib.hid hG
  have S4 := Lib.hid s4
  have S5 : Hid (∀ x ∈ d.list, sizeV x.v ≤ 1048576) := Lib.hid fun x hx => s5 _ (List.mem_map_of_mem hx)
  have HI := Lib.hid IH
  have HPT : Hid (∀ (k : Nat) (x : VD), d.list[k]? = some x → ∀ y, d.keys[k]? = some y → (partsT d)[k]? = some (quoted y ++ 58 :: textV x.v)) := Lib.hid (by
    intro k x hx y hy
    unfold partsT
    rw [if_pos h4]
    exact textKs_at _ _ k (by rw [List.getElem?_map, hx]; rfl) hy)
  have hkl := Lib.hid (hn5 h4)
  obtain ⟨W0, hW0⟩ : ∃ W0, W0 = w.alloc (.cells #[.int .i64 5, .bool d.on, .int .i64 d.n, .string ⟨d.text.toArray⟩, .slice d.a d.list.length d.c, .slice d.ka d.keys.length d.kc] 34) := ⟨_, rfl⟩
  have HT0 : Hid (TB w W0 d none 0 0) := Lib.hid (by rw [hW0]; exact ⟨by rw [h4]; exact Blk.new rfl, Own.nil _ _ _ _, below_a1 _ _⟩)
  rw [VD.val6, h4, ht]
  obtain ⟨T, hT⟩ : ∃ T, T = commas (partsT d) := ⟨_, rfl⟩
  rw [← hT] at HJL ⊢
  have HC := Lib.hid hT
  have H4 := Lib.hid h4
  obtain ⟨ea, hea⟩ : ∃ ea, ea = d.a := ⟨_, rfl⟩
  obtain ⟨eka, heka⟩ : ∃ ea, ea = d.ka := ⟨_, rfl⟩
  obtain ⟨nk, hnk⟩ : ∃ nk, nk = d.keys.length := ⟨_, rfl⟩
  rw [← hea, ← heka, ← hnk] at hW0 ⊢
  have HEA := Lib.hid hea
  have HEK := Lib.hid heka
  have HNK := Lib.hid hnk
  clear hea heka hnk
  clear hv hG hf hs hfk hh hn5 hsz s4 s5 hjl ht htl h4 IH hT
  go_enter Tryz.func20, Tryz.ntmps20
  go_upto_region 11 with (fail)
  rw [← hW0]
  clear hW0
  obtain ⟨c0, c1, c2, c3, c4, c5⟩ := HT0.out.val.six
  rw [H4.out] at c0
  rw [← HEA.out] at c4
  rw [← HEK.out, ← HNK.out] at c5
  go_wp2_with fail
  clear c0 c1 c2 c3 c4 c5
  go_loopw [3, 29] (fun p i wr => ∃ (k : Nat) (a : Option Addr) (c : Nat), k ≤ d.list.length ∧ i = .int .i64 k ∧ p = .slice a k c ∧ Hid (TB w wr d a k c)) (fun _ i _ => d.list.length - (intOf i).toNat)
  case atStart => exact ⟨0, none, 0, Nat.zero_le _, rfl, rfl, HT0⟩
  case round =>
    obtain ⟨k, a, c, hk, rfl, rfl, HT⟩ := hrel
    by_cases hlt : k < d.list.length
    · obtain ⟨x, hx⟩ := get_some hlt
      have hxm : x ∈ d.list := List.mem_of_getElem? hx
      have hva := HV.out.ext HT.out.below
      obtain ⟨b, off, hda, v0, v1, v2, v3, v4, v5⟩ := val_at hva.row hx
      rw [← HEA.out] at hda
      subst hda
      unfold strV at v3
      have hin : (k : Int) < d.list.length := by omega
      obtain ⟨y, hy⟩ := get_some (l := d.keys) (i := k) (by have := hkl.out; omega)
      have hyl := S4.out y (List.mem_of_getElem? hy)
      have Hy := Lib.hid hy
      have hin2 : (k : Int) < nk := by have := hkl.out; have := HNK.out; omega
      have HP : Hid ((partsT d)[k]? = some (quoted y ++ 58 :: textV x.v)) := Lib.hid (HPT.out k x hx y hy)
      clear hy
      have htx := fun W (hb : Below w.heap.size w W) => HI.out x hxm W (HG.out.ext hb) ((HV.out.kid x hxm).ext hb) (HFK.out x hxm) (S5.out x hxm)
      rw [VD.val6] at htx
      have HX := Lib.hid htx
      have hxl : (textV x.v).length ≤ 20971520 := by have h1 := textV_len x.v (HFK.out x hxm); have h2 := S5.out x hxm; omega
      have hws := HT.out.below.size
      have hwl := HT.out.val.lt
      have hcap := HT.out.own.le
      clear hx htx hva
      obtain ⟨c0, c1, c2, c3, c4, c5⟩ := HT.out.val.six
      rw [H4.out] at c0
      rw [← HEA.out] at c4
      rw [← HEK.out, ← HNK.out] at c5
      go_wp2_with fail
      refine (HX.out _ (HT.out.below.alloc hws _)).mono ?_
      rintro e w2 ⟨rfl, hb2⟩
      have ht2 := HT.out.ext ((below_a1 _ _).trans (hb2.mono (by simp)))
      have HT2 := Lib.hid ht2
      clear c0 c1 c2 c3 c4 c5 v0 v1 v2 v3 v4 v5 hb2 ht2 HX
      obtain ⟨c0, c1, c2, c3, c4, c5⟩ := HT2.out.val.six
      rw [H4.out] at c0
      rw [← HEA.out] at c4
      rw [← HEK.out, ← HNK.out] at c5
      generalize textV x.v = tx at *
      have hyv := (HV.out.ext HT2.out.below).krow.elem1 Hy.out
      obtain ⟨kb, koff, hka, y0⟩ := hyv
      rw [← HEK.out] at hka
      subst hka
      unfold strV at y0
      go_wp2_with fail
      refine (quoted_any y w2 (by omega)).mono ?_
      rintro e w3 ⟨rfl, hb3⟩
      have ht3 := HT2.out.ext hb3
      clear HT2
      have HT2 := Lib.hid ht3
      clear c0 c1 c2 c3 c4 c5 y0 hb3 ht3
      obtain ⟨c0, c1, c2, c3, c4, c5⟩ := HT2.out.val.six
      rw [H4.out] at c0
      rw [← HEA.out] at c4
      rw [← HEK.out, ← HNK.out] at c5
      have hql : (quoted y).length ≤ 6291458 := by have := quoted_len y; omega
      generalize quoted y = qy at *
      have hcat : (⟨qy.toArray⟩ : ByteArray) ++ (⟨#[58]⟩ : ByteArray) ++ (⟨tx.toArray⟩ : ByteArray) = ⟨(qy ++ 58 :: tx).toArray⟩ := by
        rw [show (⟨#[58]⟩ : ByteArray) = ⟨([58] : Nm).toArray⟩ from rfl, cat_nm, cat_nm, List.append_assoc]; rfl
      have HCAT := Lib.hid hcat
      clear hcat
      have hcap2 := HT2.out.own.le
      go_wp2_with (at_builtin; refine wpList_append_Own rfl _ _ 24 rfl (w.heap.size + 1) 9 _ 1 16 Tryz.underlying24 Tryz.infoStr rfl (by decide) a k c _ rfl (by exact HT2.out.own.alloc _) _ 1 1 [.string ((⟨qy.toArray⟩ : ByteArray) ++ (⟨#[58]⟩ : ByteArray) ++ (⟨tx.toArray⟩ : ByteArray))] rfl (Row.new1 (by simp) rfl rfl) (by intro u hu; simp at hu; subst hu; rfl) (by unfold maxLen; omega) (by omega) (by have := HT2.out.val.lt; simp; omega) ?_; intro a5 c5 w5 ho5 hg5 hb5; rw [HCAT.out] at ho5; have HT5 := Lib.hid (HT2.out.push HP.out ho5 hg5); clear ho5 hg5 hb5)
      go_roundw
      case rel => exact ⟨k + 1, a5, c5, by omega, by go_num, rfl, HT5⟩
      case measure => simp [intOf]; omega
    · obtain rfl : k = d.list.length := by omega
      obtain ⟨c0, c1, c2, c3, c4, c5⟩ := HT.out.val.six
      rw [H4.out] at c0
      rw [← HEA.out] at c4
      rw [← HEK.out, ← HNK.out] at c5
      have hown := HT.out.own
      rw [List.take_of_length_le (by omega)] at hown
      have hrow := hown.row
      have hbt := between_any 123 125 a c (partsT d) wr (by rw [hpl]; exact hrow) (by omega) (by rw [hpl]; exact hown.le) (by rw [← HC.out]; exact HJL.out)
      rw [hpl, ← HC.out] at hbt
      have HBT := Lib.hid hbt
      clear hown hrow hbt
      go_wp2_with fail
      refine HBT.out.mono ?_
      rintro e w2 ⟨rfl, hb2⟩
      have HB2 := Lib.hid (HT.out.below.trans (hb2.mono HT.out.below.size))
      clear hb2 HBT
      go_wp2
      go_ret
      exact ⟨rfl, HB2.out⟩

theorem text_any : ∀ d : VD, TextAt d := by
  intro d
  induction d using VD.ind with
  | h s o n t a c l ka kc ks ih =>
    intro w hG hv hf hs
    by_cases h4 : s < 4
    · exact text_leaf _ w hG hf hs h4
    · have hss := headOk_sort (formed_head hf).1
      by_cases h5 : s = 4
      · exact text_list _ w hG hv hf hs h5 ih
      · exact text_rec _ w hG hv hf hs (by have : s ≤ 5 := hss.2; show s = 5; omega) ih
end Go.Proofs.YtahiopjplfnlmaaGreatDoor
