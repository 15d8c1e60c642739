/- ValueAgain: walked. -/
import Derived.Test.YtahiopjplfnlmaaGreatDoorSizeP
namespace Go.Proofs.YtahiopjplfnlmaaGreatDoor
open Go Go.RowKit

theorem and3 (k : Int) : ∃ j : Nat, j < 4 ∧ bits BinOp.and IntKind.i64 k 3 = (j : Int) := by
  unfold bits
  simp only
  have h : (BitVec.ofInt IntKind.i64.bits k &&& BitVec.ofInt IntKind.i64.bits 3).toNat = (BitVec.ofInt IntKind.i64.bits k).toNat % 4 := by
    rw [BitVec.toNat_and]
    exact Nat.and_two_pow_sub_one_eq_mod _ 2
  rw [h]
  refine ⟨(BitVec.ofInt IntKind.i64.bits k).toNat % 4, by omega, ?_⟩
  generalize hq : (BitVec.ofInt IntKind.i64.bits k).toNat % 4 = q
  have : q = 0 ∨ q = 1 ∨ q = 2 ∨ q = 3 := by omega
  rcases this with rfl | rfl | rfl | rfl <;> rfl
theorem blank_at (j : Nat) (h : j < 4) : ∃ c : UInt8, isBlank c = true ∧ (⟨#[32, 9, 10, 13]⟩ : ByteArray).extract j (j + 1) = ⟨([c] : Nm).toArray⟩ := by
  have : j = 0 ∨ j = 1 ∨ j = 2 ∨ j = 3 := by omega
  rcases this with rfl | rfl | rfl | rfl
  · exact ⟨32, rfl, rfl⟩
  · exact ⟨9, rfl, rfl⟩
  · exact ⟨10, rfl, rfl⟩
  · exact ⟨13, rfl, rfl⟩
theorem readE_out {w w' : World} {e : Ending} (h : ReadE w .out e w') : False := h.2
set_option maxHeartbeats 4000000 in
theorem lawA_long (s : Nm) (k : Int) (w : World) (hG : Glob w) (h : (400 : Int) < s.length) : Calls Tryz.prog 5 #[.string ⟨s.toArray⟩, .int .i64 k] w (BoE w true) := by
  have h1 := alive_any w hG
  have H1 := Lib.hid h1
  clear h1 hG
  go_enter Tryz.func5, Tryz.ntmps5
  go_wp2_with fail
  refine H1.out.mono ?_
  rintro e w1 ⟨rfl, hb⟩
  have HB := Lib.hid hb
  clear hb H1
  go_wp2
  go_ret
  exact ⟨rfl, HB.out⟩
/-- what is read: a value, and an error -/
def RD (w : World) (v : V) (n : Int) (e : Ending) (w' : World) : Prop := ∃ d : VD, e = .returned (.tuple #[.agg #[.int .i64 d.sort, .bool d.on, .int .i64 d.n, .string ⟨d.text.toArray⟩, .slice d.a d.list.length d.c, .slice d.ka d.keys.length d.kc], .int .i64 n]) ∧ d.v = v ∧ ValAt w' (fun _ => True) d ∧ Below w.heap.size w w'
def resV : Res → V
  | .ok v _ => v
  | _ => .null
def resN : Res → Int
  | .err k => k
  | _ => 0
theorem readE_rd {w w' : World} {res : Res} {e : Ending} (h : ReadE w res e w') : RD w (resV res) (resN res) e w' := by
  cases res with
  | out => exact h.2.elim
  | err k =>
    obtain ⟨hb, -, he⟩ := h
    exact ⟨VD.mk 0 false 0 [] none 0 [] none 0 [], he, rfl, .leaf, hb⟩
  | ok v r =>
    obtain ⟨d, he, hv, ha, hb⟩ := readE_ok h
    exact ⟨d, he, hv, ha, hb⟩
theorem rd_any (s : Nm) (w : World) (hG : Glob w) (hs : s.length ≤ 1048576) : Calls Tryz.prog 19 #[.string ⟨s.toArray⟩] w (RD w (resV (readL s)) (resN (readL s))) := (read_any s w hG hs).mono fun _ _ h => readE_rd h
/-- a box of a value, in a later world -/
theorem ret_same {w W : World} {p : Prop} {e : Ending} (h : Ret w (IsB p) e W) (hp : p) : e = .returned (.bool true) ∧ Below w.heap.size w W := by
  obtain ⟨v, he, hb, b, rfl, hbp⟩ := h
  rw [hbp.2 hp] at he
  exact ⟨he, hb⟩
theorem readL_err {s : Nm} {k : Int} (h : readL s = .err k) : k = 11 ∨ k = 21 ∨ k = 22 := by
  unfold readL at h
  split at h
  · revert h
    cases hx : valL (steps s) 0 s with
    | out => intro h; cases h
    | err j => intro h; cases h; exact .inr ((read_err _).1 _ _ _ hx)
    | ok x r1 => intro h; simp only at h; split at h <;> cases h; exact .inr (.inl rfl)
  · cases h; exact .inl rfl
theorem readL_out (s : Nm) : readL s ≠ .out := by
  intro h
  unfold readL at h
  split at h
  · revert h
    have hne := valL_steps 0 s
    cases hx : valL (steps s) 0 s with
    | out => exact absurd hx hne
    | err j => intro h; cases h
    | ok x r1 => intro h; simp only at h; split at h <;> cases h
  · cases h
set_option maxHeartbeats 8000000 in
theorem lawA_short (s : Nm) (k n : Int) (v : V) (w : World) (hG : Glob w) (h : (s.length : Int) ≤ 400) (hn : n = resN (readL s)) (hv : v = resV (readL s)) (hsz : sizeV v ≤ 1000) (hz : n = 0 → right 20 v = true) : Calls Tryz.prog 5 #[.string ⟨s.toArray⟩, .int .i64 k] w (BoE w true) := by
  have h1 := rd_any s w hG (by omega)
  rw [← hv, ← hn] at h1
  have H1 := Lib.hid h1
  have HG := Lib.hid hG
  have HSZ := Lib.hid hsz
  have HZ := Lib.hid hz
  obtain ⟨j, hj, hbits⟩ := and3 k
  have hj3 : (j : Int) ≤ 3 := by omega
  obtain ⟨c, hc, hx⟩ := blank_at j hj
  have hr2 : ∀ W, Glob W → Calls Tryz.prog 19 #[.string ⟨(c :: (s ++ [c])).toArray⟩] W (RD W v n) := fun W hW => by
    have := rd_any (c :: (s ++ [c])) W hW (by simp; omega)
    rw [readL_blank hc, ← hv, ← hn] at this
    exact this
  have hcat : (⟨#[c]⟩ : ByteArray) ++ (⟨s.toArray⟩ : ByteArray) ++ (⟨#[c]⟩ : ByteArray) = ⟨(c :: (s ++ [c])).toArray⟩ := by
    rw [show (⟨#[c]⟩ : ByteArray) = ⟨([c] : Nm).toArray⟩ from rfl, cat_nm, cat_nm]; rfl
  have HX := Lib.hid hx
  have HR2 := Lib.hid hr2
  have HCAT := Lib.hid hcat
  clear h1 hG hx hr2 hc hj hcat hsz hz hn hv
  go_enter Tryz.func5, Tryz.ntmps5
  go_wp2_with fail
  refine H1.out.mono ?_
  rintro e W1 ⟨d, rfl, hdv, hva, hb1⟩
  obtain ⟨W2, hW2⟩ : ∃ W2, W2 = W1.alloc (.cells #[.int .i64 d.sort, .bool d.on, .int .i64 d.n, .string ⟨d.text.toArray⟩, .slice d.a d.list.length d.c, .slice d.ka d.keys.length d.kc] 34) := ⟨_, rfl⟩
  obtain ⟨b1, hb1e⟩ : ∃ b1, b1 = W1.heap.size := ⟨_, rfl⟩
  have HBL : Hid (Blk W2 b1 #[.int .i64 d.sort, .bool d.on, .int .i64 d.n, .string ⟨d.text.toArray⟩, .slice d.a d.list.length d.c, .slice d.ka d.keys.length d.kc] 34) := Lib.hid (by rw [hW2, hb1e]; exact Blk.new rfl)
  have HB2 : Hid (Below w.heap.size w W2) := Lib.hid (by rw [hW2]; exact hb1.alloc hb1.size _)
  have HVA : Hid (ValAt W2 (fun _ => True) d) := Lib.hid (by rw [hW2]; exact hva.ext (below_a1 _ _))
  have HDV := Lib.hid hdv
  clear hdv hva hb1 H1
  go_upto_region 5 with (fail)
  rw [HX.out, ← hW2, ← hb1e]
  clear hW2 hb1e hbits
  go_wp2_with fail
  rw [HCAT.out]
  refine (HR2.out W2 (HG.out.ext HB2.out)).mono ?_
  rintro e W3 ⟨d2, rfl, hdv, hva, hb3⟩
  obtain ⟨W4, hW4⟩ : ∃ W4, W4 = W3.alloc (.cells #[.int .i64 d2.sort, .bool d2.on, .int .i64 d2.n, .string ⟨d2.text.toArray⟩, .slice d2.a d2.list.length d2.c, .slice d2.ka d2.keys.length d2.kc] 34) := ⟨_, rfl⟩
  obtain ⟨b2, hb2e⟩ : ∃ b2, b2 = W3.heap.size := ⟨_, rfl⟩
  have hb34 : Below W2.heap.size W2 W4 := by rw [hW4]; exact hb3.alloc hb3.size _
  have HBL2 : Hid (Blk W4 b2 #[.int .i64 d2.sort, .bool d2.on, .int .i64 d2.n, .string ⟨d2.text.toArray⟩, .slice d2.a d2.list.length d2.c, .slice d2.ka d2.keys.length d2.kc] 34) := Lib.hid (by rw [hW4, hb2e]; exact Blk.new rfl)
  have HBL1 := Lib.hid (HBL.out.ext hb34)
  have HVA1 := Lib.hid (HVA.out.ext hb34)
  have HVA2 : Hid (ValAt W4 (fun _ => True) d2) := Lib.hid (by rw [hW4]; exact hva.ext (below_a1 _ _))
  have HB4 := Lib.hid (HB2.out.trans (hb34.mono HB2.out.size))
  have hsm := same_any d d2 W4 HVA1.out HVA2.out (by rw [HDV.out]; have := HSZ.out; omega)
  rw [VD.val6, VD.val6] at hsm
  have HSM := Lib.hid hsm
  have HD2 := Lib.hid hdv
  clear hdv hva hb3 hb34 HBL HVA HB2 hsm
  go_upto_region 6 with (fail)
  rw [← hW4, ← hb2e]
  clear hW4 hb2e
  obtain ⟨c0, c1, c2, c3, c4, c5⟩ := HBL1.out.six
  obtain ⟨e0, e1, e2, e3, e4, e5⟩ := HBL2.out.six
  go_wp2_with fail
  refine HSM.out.mono ?_
  intro e W5 h5
  obtain ⟨rfl, hb5⟩ := ret_same h5 (by rw [HDV.out, HD2.out])
  have HB5 := Lib.hid (HB4.out.trans (hb5.mono HB4.out.size))
  have HBL5 := Lib.hid (HBL1.out.ext hb5)
  have HVA5 := Lib.hid (HVA1.out.ext hb5)
  clear hb5 h5 HSM c0 c1 c2 c3 c4 c5 e0 e1 e2 e3 e4 e5 HBL1 HBL2 HVA1 HVA2 HB4
  have hal := alive_any W5 (HG.out.ext HB5.out)
  by_cases hn0 : n = 0
  case neg =>
    have HAL := Lib.hid hal
    clear hal
    go_wp2_with fail
    refine HAL.out.mono ?_
    rintro e W6 ⟨rfl, hb6⟩
    have HB6 := Lib.hid (HB5.out.trans (hb6.mono HB5.out.size))
    clear hb6 HAL
    go_wp2
    go_ret
    exact ⟨rfl, HB6.out⟩
  clear hal
  subst hn0
  have hright := HZ.out rfl
  have hw := vwrite_any d W5 (HG.out.ext HB5.out) HVA5.out (by rw [HDV.out]; have := HSZ.out; omega)
  have hwr : wrote d.v = .tuple #[.string ⟨(textV v).toArray⟩, .int .i64 0] := by rw [HDV.out]; unfold wrote; rw [if_pos hright]
  rw [hwr, VD.val6] at hw
  have HW := Lib.hid hw
  have HRT := Lib.hid hright
  clear hw hwr hright
  obtain ⟨c0, c1, c2, c3, c4, c5⟩ := HBL5.out.six
  go_wp2_with fail
  refine HW.out.mono ?_
  rintro e W6 ⟨rfl, hb6⟩
  have HB6 := Lib.hid (HB5.out.trans (hb6.mono HB5.out.size))
  have HBL6 := Lib.hid (HBL5.out.ext hb6)
  have HVA6 := Lib.hid (HVA5.out.ext hb6)
  clear hb6 HBL5 HVA5 HB5 HW c0 c1 c2 c3 c4 c5
  have h7 := read_any (textV v) W6 (HG.out.ext HB6.out) (by have := textV_len v (right_form HRT.out); have := HSZ.out; omega)
  rw [readL_text HRT.out] at h7
  have H7 := Lib.hid h7
  clear h7
  go_wp2_with fail
  refine H7.out.mono ?_
  intro e W7 h7
  obtain ⟨d3, rfl, hdv, hva, hb7⟩ := readE_ok h7
  obtain ⟨W8, hW8⟩ : ∃ W8, W8 = W7.alloc (.cells #[.int .i64 d3.sort, .bool d3.on, .int .i64 d3.n, .string ⟨d3.text.toArray⟩, .slice d3.a d3.list.length d3.c, .slice d3.ka d3.keys.length d3.kc] 34) := ⟨_, rfl⟩
  obtain ⟨b3, hb3e⟩ : ∃ b3, b3 = W7.heap.size := ⟨_, rfl⟩
  have hb68 : Below W6.heap.size W6 W8 := by rw [hW8]; exact hb7.alloc hb7.size _
  have HBL3 : Hid (Blk W8 b3 #[.int .i64 d3.sort, .bool d3.on, .int .i64 d3.n, .string ⟨d3.text.toArray⟩, .slice d3.a d3.list.length d3.c, .slice d3.ka d3.keys.length d3.kc] 34) := Lib.hid (by rw [hW8, hb3e]; exact Blk.new rfl)
  have HBL8 := Lib.hid (HBL6.out.ext hb68)
  have HVA8 := Lib.hid (HVA6.out.ext hb68)
  have HVA3 : Hid (ValAt W8 (fun _ => True) d3) := Lib.hid (by rw [hW8]; exact hva.ext (below_a1 _ _))
  have HB8 := Lib.hid (HB6.out.trans (hb68.mono HB6.out.size))
  have HD3 := Lib.hid hdv
  clear hdv hva hb7 hb68 HBL6 HVA6 HB6 h7 H7
  go_upto_region 12 with (fail)
  rw [← hW8, ← hb3e]
  clear hW8 hb3e
  have hal := alive_any W8 (HG.out.ext HB8.out)
  have HAL := Lib.hid hal
  clear hal
  go_wp2_with fail
  refine HAL.out.mono ?_
  rintro e W9 ⟨rfl, hb9⟩
  have HB9 := Lib.hid (HB8.out.trans (hb9.mono HB8.out.size))
  have HBL9 := Lib.hid (HBL8.out.ext hb9)
  have HBL39 := Lib.hid (HBL3.out.ext hb9)
  have HVA9 := Lib.hid (HVA8.out.ext hb9)
  have HVA39 := Lib.hid (HVA3.out.ext hb9)
  clear hb9 HAL HBL8 HBL3 HVA8 HVA3 HB8
  have hrg := vright_any d W9 (HG.out.ext HB9.out) HVA9.out (by rw [HDV.out]; have := HSZ.out; omega)
  rw [VD.val6, HDV.out, HRT.out] at hrg
  have HRG := Lib.hid hrg
  clear hrg
  obtain ⟨c0, c1, c2, c3, c4, c5⟩ := HBL9.out.six
  go_wp2_with fail
  refine HRG.out.mono ?_
  rintro e W10 ⟨rfl, hb10⟩
  have HB10 := Lib.hid (HB9.out.trans (hb10.mono HB9.out.size))
  have HBL10 := Lib.hid (HBL9.out.ext hb10)
  have HBL310 := Lib.hid (HBL39.out.ext hb10)
  have hsm := same_any d d3 W10 (HVA9.out.ext hb10) (HVA39.out.ext hb10) (by rw [HDV.out]; have := HSZ.out; omega)
  rw [VD.val6, VD.val6] at hsm
  have HSM := Lib.hid hsm
  clear hb10 HRG HBL9 HBL39 HVA9 HVA39 HB9 c0 c1 c2 c3 c4 c5 hsm
  obtain ⟨c0, c1, c2, c3, c4, c5⟩ := HBL10.out.six
  obtain ⟨e0, e1, e2, e3, e4, e5⟩ := HBL310.out.six
  go_wp2_with fail
  refine HSM.out.mono ?_
  intro e W11 h11
  obtain ⟨rfl, hb11⟩ := ret_same h11 (by rw [HDV.out, HD3.out])
  have HB11 := Lib.hid (HB10.out.trans (hb11.mono HB10.out.size))
  clear hb11 h11 HSM c0 c1 c2 c3 c4 c5 e0 e1 e2 e3 e4 e5
  go_wp2
  go_ret
  exact ⟨rfl, HB11.out⟩
theorem lawA_any (s : Nm) (k : Int) (w : World) (hG : Glob w) : Calls Tryz.prog 5 #[.string ⟨s.toArray⟩, .int .i64 k] w (BoE w true) := by
  by_cases h : (400 : Int) < s.length
  · exact lawA_long s k w hG h
  · refine lawA_short s k _ _ w hG (by omega) rfl rfl ?_ ?_
    · cases hr : readL s with
      | ok v r => have := readL_size hr; show sizeV v ≤ 1000; omega
      | err k => show sizeV V.null ≤ 1000; decide
      | out => show sizeV V.null ≤ 1000; decide
    · intro h0
      cases hr : readL s with
      | ok v r => exact (readL_right hr).1
      | err k =>
        exfalso
        rw [hr] at h0
        have h0 : k = 0 := h0
        have := readL_err hr
        omega
      | out => exact absurd hr (readL_out s)
end Go.Proofs.YtahiopjplfnlmaaGreatDoor
