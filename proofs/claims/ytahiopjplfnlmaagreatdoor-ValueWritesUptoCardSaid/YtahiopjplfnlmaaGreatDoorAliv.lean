/- The live question: walked. -/
import Derived.Test.YtahiopjplfnlmaaGreatDoorGet
namespace Go.Proofs.YtahiopjplfnlmaaGreatDoor
open Go Go.RowKit

def aliveL : Nm := [32, 123, 32, 34, 97, 92, 117, 48, 48, 101, 57, 92, 117, 100, 56, 51, 100, 92, 117, 100, 101, 48, 48, 34, 32, 58, 32, 91, 32, 49, 32, 44, 32, 45, 50, 48, 32, 44, 32, 110, 117, 108, 108, 32, 93, 32, 44, 32, 34, 34, 32, 58, 32, 34, 92, 110, 34, 32, 125, 32]
def aliveT : Nm := [123, 34, 97, 195, 169, 240, 159, 152, 128, 34, 58, 91, 49, 44, 45, 50, 48, 44, 110, 117, 108, 108, 93, 44, 34, 34, 58, 34, 92, 117, 48, 48, 48, 97, 34, 125]
def aliveV : V := .mk 5 false 0 [] [.mk 4 false 0 [] [.mk 2 false 1 [] [] [], .mk 2 false (-20) [] [] [], .null] [], .mk 3 false 0 [10] [] []] [[97, 195, 169, 240, 159, 152, 128], []]
theorem alive_read : readL aliveL = .ok aliveV [] := by kernel_rfl
theorem alive_no : readL [91, 48, 49, 93] = .err 21 := by kernel_rfl
theorem alive_right : right 20 aliveV = true := by kernel_rfl
theorem alive_text : textV aliveV = aliveT := by kernel_rfl
theorem alive_get : getV aliveV [[]] = some (.mk 3 false 0 [10] [] []) := by kernel_rfl
theorem alive_size : sizeV aliveV ≤ 1048576 := by decide +kernel
theorem alive_wrote {v : V} (h : v = aliveV) : wrote v = .tuple #[.string ⟨aliveT.toArray⟩, .int .i64 0] := by subst h; unfold wrote; rw [if_pos alive_right, alive_text]
theorem readE_ok {w w' : World} {v : V} {r : Nm} {e : Ending} (h : ReadE w (.ok v r) e w') : ∃ d : VD, e = .returned (.tuple #[.agg #[.int .i64 d.sort, .bool d.on, .int .i64 d.n, .string ⟨d.text.toArray⟩, .slice d.a d.list.length d.c, .slice d.ka d.keys.length d.kc], .int .i64 0]) ∧ d.v = v ∧ ValAt w' (fun _ => True) d ∧ Below w.heap.size w w' := by
  obtain ⟨hb, d, he, hv, ha⟩ := h
  rw [VD.val6] at he
  exact ⟨d, he, hv, ha.mono fun _ _ _ => trivial, hb⟩
theorem readE_err {w w' : World} {k : Int} {e : Ending} (h : ReadE w (.err k) e w') : e = .returned (.tuple #[.agg #[.int .i64 0, .bool false, .int .i64 0, .string { data := #[] }, .slice none 0 0, .slice none 0 0], .int .i64 k]) ∧ (k = 11 ∨ k = 21 ∨ k = 22) ∧ Below w.heap.size w w' := ⟨h.2.2, h.2.1, h.1⟩
theorem getE_some {w w' : World} {v : V} {r : Option V} {e : Ending} (h : GetE w r e w') (hr : r = some v) : ∃ d : VD, e = .returned (.tuple #[.agg #[.int .i64 d.sort, .bool d.on, .int .i64 d.n, .string ⟨d.text.toArray⟩, .slice d.a d.list.length d.c, .slice d.ka d.keys.length d.kc], .bool true]) ∧ d.v = v ∧ Below w.heap.size w w' := by
  subst hr
  obtain ⟨hb, d, he, hv, -⟩ := h
  rw [VD.val6] at he
  exact ⟨d, he, hv, hb⟩
set_option maxHeartbeats 2000000 in
theorem alive_any (w : World) (hG : Glob w) : Calls Tryz.prog 8 #[] w (BoE w true) := by
  have h1 := read_any aliveL w hG (by decide)
  rw [alive_read] at h1
  have H1 := Lib.hid h1
  have HG := Lib.hid hG
  unfold aliveL at H1
  clear h1 hG
  go_enter Tryz.func8, Tryz.ntmps8
  go_wp2_with fail
  refine H1.out.mono ?_
  intro e W1 h
  obtain ⟨d, rfl, hdv, hva, hb⟩ := readE_ok h
  have hva2 := hva.ext (below_a1 W1 (.cells #[.int .i64 d.sort, .bool d.on, .int .i64 d.n, .string ⟨d.text.toArray⟩, .slice d.a d.list.length d.c, .slice d.ka d.keys.length d.kc] 34))
  obtain ⟨W2, hW2⟩ : ∃ W2, W2 = W1.alloc (.cells #[.int .i64 d.sort, .bool d.on, .int .i64 d.n, .string ⟨d.text.toArray⟩, .slice d.a d.list.length d.c, .slice d.ka d.keys.length d.kc] 34) := ⟨_, rfl⟩
  have hbl : Blk W2 W1.heap.size #[.int .i64 d.sort, .bool d.on, .int .i64 d.n, .string ⟨d.text.toArray⟩, .slice d.a d.list.length d.c, .slice d.ka d.keys.length d.kc] 34 := by rw [hW2]; exact Blk.new rfl
  have hb2 : Below w.heap.size w W2 := by rw [hW2]; exact hb.alloc hb.size _
  rw [← hW2] at hva2
  have hw := vwrite_any d W2 (HG.out.ext hb2) hva2 (by rw [hdv]; exact alive_size)
  rw [VD.val6, alive_wrote hdv] at hw
  obtain ⟨b1, hb1⟩ : ∃ b1, b1 = W1.heap.size := ⟨_, rfl⟩
  rw [← hb1] at hbl
  have HB2 := Lib.hid hb2
  have HBL := Lib.hid hbl
  have HVA := Lib.hid hva2
  have HDV := Lib.hid hdv
  have HW := Lib.hid hw
  clear h hdv hva hb hva2 hbl hb2 hw H1
  go_upto_region 2 with (fail)
  rw [← hW2, ← hb1]
  clear hW2 hb1
  obtain ⟨c0, c1, c2, c3, c4, c5⟩ := HBL.out.six
  go_wp2_with fail
  refine HW.out.mono ?_
  rintro e W3 ⟨rfl, hb3⟩
  have HB3 := Lib.hid (HB2.out.trans (hb3.mono HB2.out.size))
  have HBL3 := Lib.hid (HBL.out.ext hb3)
  have HVA3 := Lib.hid (HVA.out.ext hb3)
  have h2 := read_any [91, 48, 49, 93] W3 (HG.out.ext HB3.out) (by decide)
  rw [alive_no] at h2
  have H2 := Lib.hid h2
  clear hb3 h2 HBL HVA HW HB2 c0 c1 c2 c3 c4 c5
  go_wp2_with fail
  refine H2.out.mono ?_
  intro e W4 h
  obtain ⟨rfl, -, hb4⟩ := readE_err h
  have HB4 := Lib.hid (HB3.out.trans (hb4.mono HB3.out.size))
  have HBL4 := Lib.hid (HBL3.out.ext hb4)
  have HVA4 := Lib.hid (HVA3.out.ext hb4)
  clear hb4 h H2 HBL3 HVA3 HB3
  obtain ⟨c0, c1, c2, c3, c4, c5⟩ := HBL4.out.six
  have hlt := HBL4.out.lt
  obtain ⟨W6, hW6⟩ : ∃ W6, W6 = (W4.alloc (.cells #[.int .i64 0, .bool false, .int .i64 0, .string { data := #[] }, .slice none 0 0, .slice none 0 0] 34)).alloc (.cells #[.string { data := #[] }] 9) := ⟨_, rfl⟩
  have hb6 : Below W4.heap.size W4 W6 := by rw [hW6]; exact (below_a1 _ _).alloc (by simp) _
  have hrow : Row W6 1 (some ⟨W4.heap.size + 1, 0, none⟩) ([[]] : List Nm).length (([[]] : List Nm).map strV) := by
    have hb : Blk W6 (W4.heap.size + 1) #[.string { data := #[] }] 9 := by rw [hW6]; exact Blk.new (by simp)
    have h0 := hb.cell 0
    refine ⟨rfl, fun _ => ⟨_, 0, rfl, fun j hj => ?_⟩⟩
    have : j = 0 := by simp at hj; omega
    subst this
    exact h0
  have hgt := get_any d _ 1 [[]] W6 (HVA4.out.ext hb6) hrow (by decide) (by rw [HDV.out]; exact alive_size)
  rw [VD.val6] at hgt
  have HGT := Lib.hid hgt
  have HB6 := Lib.hid (HB4.out.trans (hb6.mono HB4.out.size))
  clear hb6 hrow hgt
  go_wp2_with fail
  rw [← hW6]
  clear hW6
  refine HGT.out.mono ?_
  intro e W7 h
  obtain ⟨x, rfl, hxv, hb7⟩ := getE_some h (by rw [HDV.out]; exact alive_get)
  have hxt : x.text = [10] := by rw [VD.v_eq] at hxv; injection hxv
  have HB7 : Hid (Below w.heap.size w (W7.alloc (.cells #[.int .i64 x.sort, .bool x.on, .int .i64 x.n, .string ⟨x.text.toArray⟩, .slice x.a x.list.length x.c, .slice x.ka x.keys.length x.kc] 34))) := Lib.hid ((HB6.out.trans (hb7.mono HB6.out.size)).alloc (by have := HB6.out.size; have := hb7.size; omega) _)
  rw [hxt] at HB7 ⊢
  clear h hb7 hxv hxt c0 c1 c2 c3 c4 c5 HGT
  unfold aliveT
  go_wp2
  go_ret
  exact ⟨rfl, HB7.out⟩
end Go.Proofs.YtahiopjplfnlmaaGreatDoor
