/- ValueDeep: walked. -/
import Derived.Test.YtahiopjplfnlmaaGreatDoorLawA
namespace Go.Proofs.YtahiopjplfnlmaaGreatDoor
open Go Go.RowKit

theorem and31 (k : Int) : ∃ j : Nat, j ≤ 31 ∧ bits BinOp.and IntKind.i64 k 31 = (j : Int) := by
  unfold bits
  simp only
  have h : (BitVec.ofInt IntKind.i64.bits k &&& BitVec.ofInt IntKind.i64.bits 31).toNat = (BitVec.ofInt IntKind.i64.bits k).toNat % 32 := by
    rw [BitVec.toNat_and]
    exact Nat.and_two_pow_sub_one_eq_mod _ 5
  rw [h]
  refine ⟨(BitVec.ofInt IntKind.i64.bits k).toNat % 32, by omega, ?_⟩
  have hq : (BitVec.ofInt IntKind.i64.bits k).toNat % 32 < 32 := by omega
  generalize (BitVec.ofInt IntKind.i64.bits k).toNat % 32 = q at *
  have : ∀ q : Fin 32, IntKind.i64.wrap ((q.val : Nat) : Int) = (q.val : Int) := by decide
  exact this ⟨q, hq⟩
theorem and7i : ∀ i : Fin 32, bits BinOp.and IntKind.i64 (i.val : Int) 7 = ((i.val % 8 : Nat) : Int) := by decide
/-- of which kind a bracket is -/
def how (k : Int) (j : Nat) : Bool := bits BinOp.and IntKind.i64 (k / 2 ^ (j % 8)) 1 == 1
theorem nestT_len (f : Nat → Bool) : ∀ j, (nestT f j).length ≤ 6 * j + 4
  | 0 => by simp [nestT, nullL]
  | j + 1 => by
    have := nestT_len f j
    unfold nestT
    split <;> simp [quoted, quoteB] <;> omega
/-- the box of what is nested -/
structure DB (w W : World) (d : VD) : Prop where
  val : Blk W w.heap.size #[.int .i64 d.sort, .bool d.on, .int .i64 d.n, .string ⟨d.text.toArray⟩, .slice d.a d.list.length d.c, .slice d.ka d.keys.length d.kc] 34
  rows : ValAt W (fun g => w.heap.size < g) d
  below : Below w.heap.size w W
theorem DB.push {w wr W : World} {d : VD} {r : Nat} (h : DB w wr d) (s : Int) (ks : List Nm) (ka : Option Addr) (kc : Nat) (hbox : Blk W w.heap.size #[.int .i64 s, .bool false, .int .i64 0, .string { data := #[] }, .slice (some ⟨r, 0, none⟩) 1 1, .slice ka ks.length kc] 34) (hbel : Below w.heap.size w W)
    (hch : ∀ g, w.heap.size < g → g < wr.heap.size → W.heap[g]? = wr.heap[g]?) (hrow : Blk W r d.cells.toArray 34) (hkr : Row W 1 ka ks.length (ks.map strV)) (hr : w.heap.size < r)
    (hka : ∀ g, 0 < ks.length → blockOf ka = some g → w.heap.size < g) : DB w W (VD.mk s false 0 [] (some ⟨r, 0, none⟩) 1 [d] ka kc ks) := by
  refine ⟨hbox, ?_, hbel⟩
  have hd : ValAt W (fun g => w.heap.size < g) d := h.rows.congr hch
  refine .mk ?_ hkr (fun g _ hg => by cases hg; exact hr) hka (fun x hx => by rw [List.mem_singleton] at hx; subst hx; exact hd)
  refine ⟨by simp [VD.len], fun _ => ⟨r, 0, rfl, fun j hj => ?_⟩⟩
  have hc := hrow.cell j
  rw [Nat.zero_add, hc]
  simp
theorem store6p {w : World} {g : Nat} {v0 v1 v2 v3 v4 v5 u0 u1 u2 u3 u4 u5 : Value} {T : TypeId} (h : Blk w g #[v0, v1, v2, v3, v4, v5] T) : Blk (put6 w g 0 u0 u1 u2 u3 u4 u5) g #[u0, u1, u2, u3, u4, u5] T := by
  simpa [put6] using store6 (u0 := u0) (u1 := u1) (u2 := u2) (u3 := u3) (u4 := u4) (u5 := u5) h
theorem put6_size (w : World) (g o : Nat) (u0 u1 u2 u3 u4 u5 : Value) : (put6 w g o u0 u1 u2 u3 u4 u5).heap.size = w.heap.size := by unfold put6; simp
/-- the world behind a round: a list -/
def wL (w wr : World) (d : VD) : World := (put6 wr w.heap.size 0 (.int .i64 4) (.bool false) (.int .i64 0) (.string { data := #[] }) (.slice (some ⟨wr.heap.size, 0, none⟩) 1 1) (.slice none 0 0)).alloc (.cells #[.int .i64 d.sort, .bool d.on, .int .i64 d.n, .string ⟨d.text.toArray⟩, .slice d.a d.list.length d.c, .slice d.ka d.keys.length d.kc] 34)
/-- the world behind a round: a record -/
def wR (w wr : World) (d : VD) : World := ((put6 wr w.heap.size 0 (.int .i64 5) (.bool false) (.int .i64 0) (.string { data := #[] }) (.slice (some ⟨(wr.heap.size + 1), 0, none⟩) 1 1) (.slice (some ⟨wr.heap.size, 0, none⟩) 1 1)).alloc (.cells #[.string { data := #[107] }] 9)).alloc (.cells #[.int .i64 d.sort, .bool d.on, .int .i64 d.n, .string ⟨d.text.toArray⟩, .slice d.a d.list.length d.c, .slice d.ka d.keys.length d.kc] 34)
theorem cells_arr (d : VD) : d.cells.toArray = #[.int .i64 d.sort, .bool d.on, .int .i64 d.n, .string ⟨d.text.toArray⟩, .slice d.a d.list.length d.c, .slice d.ka d.keys.length d.kc] := by cases d; rfl
theorem DB.list {w wr : World} {d : VD} (h : DB w wr d) : DB w (wL w wr d) (VD.mk 4 false 0 [] (some ⟨wr.heap.size, 0, none⟩) 1 [d] none 0 []) := by
  have hl := h.val.lt
  have hsz : (put6 wr w.heap.size 0 (.int .i64 4) (.bool false) (.int .i64 0) (.string { data := #[] }) (.slice (some ⟨wr.heap.size, 0, none⟩) 1 1) (.slice none 0 0)).heap.size = wr.heap.size := put6_size _ _ _ _ _ _ _ _ _
  unfold wL
  generalize hP : put6 wr w.heap.size 0 (.int .i64 4) (.bool false) (.int .i64 0) (.string { data := #[] }) (.slice (some ⟨wr.heap.size, 0, none⟩) 1 1) (.slice none 0 0) = P at *
  have hbl : Blk P w.heap.size #[.int .i64 4, .bool false, .int .i64 0, .string { data := #[] }, .slice (some ⟨wr.heap.size, 0, none⟩) 1 1, .slice none 0 0] 34 := by rw [← hP]; exact store6p h.val
  have hbw : Below w.heap.size w P := by rw [← hP]; exact put6_below (o := 0) h.below (Nat.le_refl _)
  have hot : ∀ g, w.heap.size < g → P.heap[g]? = wr.heap[g]? := fun g hg => by rw [← hP]; exact put6_other (by omega)
  refine h.push (r := wr.heap.size) 4 [] none 0 (hbl.alloc _) (hbw.alloc (by rw [hsz]; exact h.below.size) _) (fun g h1 h2 => ?_) (by rw [cells_arr]; exact Blk.new hsz.symm) (Row.nil _ _ _) hl (fun g h1 h2 => by simp at h1)
  rw [Below.heap_alloc _ _ g (by rw [hsz]; omega)]
  exact hot g h1
theorem DB.rcd {w wr : World} {d : VD} (h : DB w wr d) : DB w (wR w wr d) (VD.mk 5 false 0 [] (some ⟨wr.heap.size + 1, 0, none⟩) 1 [d] (some ⟨wr.heap.size, 0, none⟩) 1 [[107]]) := by
  have hl := h.val.lt
  have hsz : (put6 wr w.heap.size 0 (.int .i64 5) (.bool false) (.int .i64 0) (.string { data := #[] }) (.slice (some ⟨(wr.heap.size + 1), 0, none⟩) 1 1) (.slice (some ⟨wr.heap.size, 0, none⟩) 1 1)).heap.size = wr.heap.size := put6_size _ _ _ _ _ _ _ _ _
  unfold wR
  generalize hP : put6 wr w.heap.size 0 (.int .i64 5) (.bool false) (.int .i64 0) (.string { data := #[] }) (.slice (some ⟨(wr.heap.size + 1), 0, none⟩) 1 1) (.slice (some ⟨wr.heap.size, 0, none⟩) 1 1) = P at *
  have hbl : Blk P w.heap.size #[.int .i64 5, .bool false, .int .i64 0, .string { data := #[] }, .slice (some ⟨wr.heap.size + 1, 0, none⟩) 1 1, .slice (some ⟨wr.heap.size, 0, none⟩) 1 1] 34 := by rw [← hP]; exact store6p h.val
  have hbw : Below w.heap.size w P := by rw [← hP]; exact put6_below (o := 0) h.below (Nat.le_refl _)
  have hot : ∀ g, w.heap.size < g → P.heap[g]? = wr.heap[g]? := fun g hg => by rw [← hP]; exact put6_other (by omega)
  have hs1 : (P.alloc (.cells #[.string { data := #[107] }] 9)).heap.size = wr.heap.size + 1 := by simp [hsz]
  have hkb : Blk (P.alloc (.cells #[.string { data := #[107] }] 9)) wr.heap.size #[.string { data := #[107] }] 9 := Blk.new hsz.symm
  refine h.push (r := wr.heap.size + 1) 5 [[107]] (some ⟨wr.heap.size, 0, none⟩) 1 ((hbl.alloc _).alloc _) ((hbw.alloc (by rw [hsz]; exact h.below.size) _).alloc (by rw [hs1]; have := h.below.size; omega) _) (fun g h1 h2 => ?_) (by rw [cells_arr]; exact Blk.new hs1.symm) ⟨rfl, fun _ => ⟨_, 0, rfl, fun i hi => ?_⟩⟩ (by omega) (fun g h1 h2 => by cases h2; exact hl)
  · rw [Below.heap_alloc _ _ g (by rw [hs1]; omega), Below.heap_alloc _ _ g (by rw [hsz]; omega)]
    exact hot g h1
  · have : i = 0 := by simp at hi; omega
    subst this
    exact (hkb.alloc _).cell 0
theorem cat_list (T : Nm) : (⟨#[91]⟩ : ByteArray) ++ (⟨T.toArray⟩ : ByteArray) ++ (⟨#[93]⟩ : ByteArray) = ⟨(91 :: (T ++ [93])).toArray⟩ := by
  rw [show (⟨#[91]⟩ : ByteArray) = ⟨([91] : Nm).toArray⟩ from rfl, show (⟨#[93]⟩ : ByteArray) = ⟨([93] : Nm).toArray⟩ from rfl, cat_nm, cat_nm, List.append_assoc, List.singleton_append]
theorem cat_rcd (T : Nm) : (⟨#[123, 34, 107, 34, 58]⟩ : ByteArray) ++ (⟨T.toArray⟩ : ByteArray) ++ (⟨#[125]⟩ : ByteArray) = ⟨(123 :: (quoted [107] ++ 58 :: (T ++ [125]))).toArray⟩ := by
  rw [show (⟨#[123, 34, 107, 34, 58]⟩ : ByteArray) = ⟨([123, 34, 107, 34, 58] : Nm).toArray⟩ from rfl, show (⟨#[125]⟩ : ByteArray) = ⟨([125] : Nm).toArray⟩ from rfl, cat_nm, cat_nm, List.append_assoc]
  rfl
theorem nestV_size (f : Nat → Bool) : ∀ j, sizeV (nestV f j) ≤ 3 * j + 1
  | 0 => by show sizeV V.null ≤ 1; decide
  | j + 1 => by
    have := nestV_size f j
    unfold nestV
    split <;> simp [sizeV, sizesV] <;> omega
set_option maxHeartbeats 4000000 in
theorem lawD_any (a k : Int) (w : World) (hG : Glob w) : Calls Tryz.prog 6 #[.int .i64 a, .int .i64 k] w (BoE w true) := by
  obtain ⟨n, hn, hbits⟩ := and31 a
  have HB := Lib.hid hbits
  have HG := Lib.hid hG
  clear hG
  go_enter Tryz.func6, Tryz.ntmps6
  go_wp2_with fail
  clear hbits
  go_loopw [6, 8] (fun t i wr => ∃ (j : Nat) (d : VD), j ≤ n ∧ i = .int .i64 j ∧ t = .string ⟨(nestT (how k) j).toArray⟩ ∧ Hid (DB w wr d) ∧ Hid (d.v = nestV (how k) j)) (fun _ i _ => n - (intOf i).toNat)
  case atStart => exact ⟨0, VD.mk 0 false 0 [] none 0 [] none 0 [], Nat.zero_le _, rfl, rfl, Lib.hid ⟨Blk.new rfl, .leaf, below_a1 _ _⟩, Lib.hid rfl⟩
  case round =>
    obtain ⟨j, d, hj, rfl, rfl, hd, hdv⟩ := hrel
    by_cases hlt : j < n
    · have h7 := and7i ⟨j, by omega⟩
      simp only at h7
      have hlen := nestT_len (how k) j
      have hlen2 : (nestT (how k) j).length ≤ 1000 := by omega
      have hT : ∀ b, how k j = b → nestT (how k) (j + 1) = if b then 123 :: (quoted [107] ++ 58 :: (nestT (how k) j ++ [125])) else 91 :: (nestT (how k) j ++ [93]) := fun b hb => by rw [nestT, hb]
      have hV : ∀ b, how k j = b → nestV (how k) (j + 1) = if b then .mk 5 false 0 [] [nestV (how k) j] [[107]] else .mk 4 false 0 [] [nestV (how k) j] [] := fun b hb => by rw [nestV, hb]
      obtain ⟨c0, c1, c2, c3, c4, c5⟩ := hd.out.val.six
      have f0 := hd.out.val.free 0
      have f1 := hd.out.val.free 1
      have f2 := hd.out.val.free 2
      have f3 := hd.out.val.free 3
      have f4 := hd.out.val.free 4
      have f5 := hd.out.val.free 5
      have hbl := hd.out.val.lt
      generalize hNT : nestT (how k) j = T at *
      cases hb : how k j with
      | true =>
        have HT := Lib.hid (hT true hb)
        have HV := Lib.hid (hV true hb)
        have hbit : (bits BinOp.and IntKind.i64 (k / 2 ^ (j % 8)) 1 == 1) = true := hb
        clear hT hV hb hlen hNT
        go_upto_region 6 with (fail)
        obtain ⟨W8, hW8⟩ : ∃ W8, W8 = wR w wr d := ⟨_, rfl⟩
        have HDB := Lib.hid hd.out.rcd
        rw [← hW8] at HDB
        unfold wR put6 at hW8
        simp only [Nat.zero_add] at hW8
        rw [← hW8, cat_rcd]
        clear hW8 c0 c1 c2 c3 c4 c5 f0 f1 f2 f3 f4 f5
        go_wp2
        go_roundw
        case rel => exact ⟨j + 1, _, by omega, by go_num, by rw [HT.out]; rfl, HDB, Lib.hid (by rw [HV.out, ← hdv.out]; rfl)⟩
        case measure => simp [intOf]; omega
      | false =>
        have HT := Lib.hid (hT false hb)
        have HV := Lib.hid (hV false hb)
        have hbit : (bits BinOp.and IntKind.i64 (k / 2 ^ (j % 8)) 1 == 1) = false := hb
        clear hT hV hb hlen hNT
        go_upto_region 6 with (fail)
        obtain ⟨W8, hW8⟩ : ∃ W8, W8 = wL w wr d := ⟨_, rfl⟩
        have HDB := Lib.hid hd.out.list
        rw [← hW8] at HDB
        unfold wL put6 at hW8
        simp only [Nat.zero_add] at hW8
        rw [← hW8, cat_list]
        clear hW8 c0 c1 c2 c3 c4 c5 f0 f1 f2 f3 f4 f5
        go_wp2
        go_roundw
        case rel => exact ⟨j + 1, _, by omega, by go_num, by rw [HT.out]; rfl, HDB, Lib.hid (by rw [HV.out, ← hdv.out]; rfl)⟩
        case measure => simp [intOf]; omega
    · obtain rfl : j = n := by omega
      have HVAr : Hid (ValAt wr (fun _ => True) d) := Lib.hid (hd.out.rows.mono fun _ _ _ => trivial)
      have HBr : Hid (Below w.heap.size w wr) := Lib.hid hd.out.below
      have HBLr := Lib.hid hd.out.val
      have HDV : Hid (d.v = nestV (how k) j) := Lib.hid hdv.out
      have hlen := nestT_len (how k) j
      have HSZ : Hid (sizeV d.v ≤ 1000) := Lib.hid (by rw [hdv.out]; have := nestV_size (how k) j; omega)
      have h1 := rd_any (nestT (how k) j) wr (HG.out.ext HBr.out) (by omega)
      rw [nest_readL] at h1
      have hrt := nest_right (how k) j
      have htx := nest_text (how k) j
      clear hd hdv hlen
      generalize nestT (how k) j = T at *
      generalize nestV (how k) j = V0 at *
      by_cases h20 : j ≤ 20
      · rw [if_pos h20] at h1
        have hright : right 20 V0 = true := by rw [hrt]; simpa using h20
        subst htx
        have H1 : Hid (Calls Tryz.prog 19 #[.string ⟨(textV V0).toArray⟩] wr (RD wr V0 0)) := Lib.hid h1
        have HRT := Lib.hid hright
        have hj20 : ¬ ((20 : Int) < (j : Int)) := by omega
        clear h1 hrt hright h20
        go_upto_region 12 with (fail)
        go_wp2_with fail
        refine H1.out.mono ?_
        rintro e W1 ⟨d1, rfl, hd1, hva, hb1⟩
        obtain ⟨W2, hW2⟩ : ∃ W2, W2 = W1.alloc (.cells #[.int .i64 d1.sort, .bool d1.on, .int .i64 d1.n, .string ⟨d1.text.toArray⟩, .slice d1.a d1.list.length d1.c, .slice d1.ka d1.keys.length d1.kc] 34) := ⟨_, rfl⟩
        obtain ⟨b1, hb1x⟩ : ∃ b1, b1 = W1.heap.size := ⟨_, rfl⟩
        have hb12 : Below wr.heap.size wr W2 := by rw [hW2]; exact hb1.alloc hb1.size _
        have HBL1 : Hid (Blk W2 b1 #[.int .i64 d1.sort, .bool d1.on, .int .i64 d1.n, .string ⟨d1.text.toArray⟩, .slice d1.a d1.list.length d1.c, .slice d1.ka d1.keys.length d1.kc] 34) := Lib.hid (by rw [hW2, hb1x]; exact Blk.new rfl)
        have HVA1 : Hid (ValAt W2 (fun _ => True) d1) := Lib.hid (by rw [hW2]; exact hva.ext (below_a1 _ _))
        have HBL2 := Lib.hid (HBLr.out.ext hb12)
        have HVA2 := Lib.hid (HVAr.out.ext hb12)
        have HB2 := Lib.hid (HBr.out.trans (hb12.mono HBr.out.size))
        have HD1 := Lib.hid hd1
        clear hd1 hva hb1 hb12 HBLr HVAr HBr H1
        go_upto_region 13 with (fail)
        rw [← hW2, ← hb1x]
        clear hW2 hb1x
        have hw := vwrite_any d W2 (HG.out.ext HB2.out) HVA2.out (by have := HSZ.out; omega)
        have hwr : wrote d.v = .tuple #[.string ⟨(textV V0).toArray⟩, .int .i64 0] := by rw [HDV.out]; unfold wrote; rw [if_pos HRT.out]
        rw [hwr, VD.val6] at hw
        have HW := Lib.hid hw
        clear hw hwr
        obtain ⟨c0, c1, c2, c3, c4, c5⟩ := HBL2.out.six
        go_wp2_with fail
        refine HW.out.mono ?_
        rintro e W3 ⟨rfl, hb3⟩
        have HB3 := Lib.hid (HB2.out.trans (hb3.mono HB2.out.size))
        have HBL3 := Lib.hid (HBL2.out.ext hb3)
        have HVA3 := Lib.hid (HVA2.out.ext hb3)
        have HBL13 := Lib.hid (HBL1.out.ext hb3)
        have HVA13 := Lib.hid (HVA1.out.ext hb3)
        clear hb3 HW HBL2 HVA2 HBL1 HVA1 HB2 c0 c1 c2 c3 c4 c5
        have hal := alive_any W3 (HG.out.ext HB3.out)
        have HAL := Lib.hid hal
        clear hal
        go_wp2_with fail
        refine HAL.out.mono ?_
        rintro e W4 ⟨rfl, hb4⟩
        have HB4 := Lib.hid (HB3.out.trans (hb4.mono HB3.out.size))
        have HBL4 := Lib.hid (HBL3.out.ext hb4)
        have HBL14 := Lib.hid (HBL13.out.ext hb4)
        have hsm := same_any d1 d W4 (HVA13.out.ext hb4) (HVA3.out.ext hb4) (by rw [HD1.out, ← HDV.out]; have := HSZ.out; omega)
        rw [VD.val6, VD.val6] at hsm
        have HSM := Lib.hid hsm
        clear hb4 HAL HBL3 HVA3 HBL13 HVA13 HB3 hsm
        obtain ⟨c0, c1, c2, c3, c4, c5⟩ := HBL4.out.six
        obtain ⟨e0, e1, e2, e3, e4, e5⟩ := HBL14.out.six
        go_wp2_with fail
        refine HSM.out.mono ?_
        intro e W5 h5
        obtain ⟨rfl, hb5⟩ := ret_same h5 (by rw [HDV.out, HD1.out])
        have HB5 := Lib.hid (HB4.out.trans (hb5.mono HB4.out.size))
        clear hb5 h5 HSM c0 c1 c2 c3 c4 c5 e0 e1 e2 e3 e4 e5
        go_wp2
        go_ret
        exact ⟨rfl, HB5.out⟩
      · rw [if_neg h20] at h1
        have hright : right 20 V0 = false := by rw [hrt]; simpa using h20
        have H1 : Hid (Calls Tryz.prog 19 #[.string ⟨T.toArray⟩] wr (RD wr V.null 22)) := Lib.hid h1
        have HRT := Lib.hid hright
        have hj20 : (20 : Int) < (j : Int) := by omega
        clear h1 hrt hright h20 htx
        go_upto_region 12 with (fail)
        go_wp2_with fail
        refine H1.out.mono ?_
        rintro e W1 ⟨d1, rfl, -, -, hb1⟩
        obtain ⟨W2, hW2⟩ : ∃ W2, W2 = W1.alloc (.cells #[.int .i64 d1.sort, .bool d1.on, .int .i64 d1.n, .string ⟨d1.text.toArray⟩, .slice d1.a d1.list.length d1.c, .slice d1.ka d1.keys.length d1.kc] 34) := ⟨_, rfl⟩
        obtain ⟨b1, hb1x⟩ : ∃ b1, b1 = W1.heap.size := ⟨_, rfl⟩
        have hb12 : Below wr.heap.size wr W2 := by rw [hW2]; exact hb1.alloc hb1.size _
        have HBL2 := Lib.hid (HBLr.out.ext hb12)
        have HVA2 := Lib.hid (HVAr.out.ext hb12)
        have HB2 := Lib.hid (HBr.out.trans (hb12.mono HBr.out.size))
        clear hb1 hb12 HBLr HVAr HBr H1
        go_upto_region 13 with (fail)
        rw [← hW2, ← hb1x]
        clear hW2 hb1x
        have hw := vwrite_any d W2 (HG.out.ext HB2.out) HVA2.out (by have := HSZ.out; omega)
        have hwr : wrote d.v = .tuple #[.string { data := #[] }, .int .i64 21] := by rw [HDV.out]; unfold wrote; rw [if_neg (by rw [HRT.out]; decide)]
        rw [hwr, VD.val6] at hw
        have HW := Lib.hid hw
        clear hw hwr
        obtain ⟨c0, c1, c2, c3, c4, c5⟩ := HBL2.out.six
        go_wp2_with fail
        refine HW.out.mono ?_
        rintro e W3 ⟨rfl, hb3⟩
        have HB3 := Lib.hid (HB2.out.trans (hb3.mono HB2.out.size))
        have HBL3 := Lib.hid (HBL2.out.ext hb3)
        have HVA3 := Lib.hid (HVA2.out.ext hb3)
        clear hb3 HW HBL2 HVA2 HB2 c0 c1 c2 c3 c4 c5
        have hal := alive_any W3 (HG.out.ext HB3.out)
        have HAL := Lib.hid hal
        clear hal
        go_wp2_with fail
        refine HAL.out.mono ?_
        rintro e W4 ⟨rfl, hb4⟩
        have HB4 := Lib.hid (HB3.out.trans (hb4.mono HB3.out.size))
        have HBL4 := Lib.hid (HBL3.out.ext hb4)
        have hrg := vright_any d W4 (HG.out.ext HB4.out) (HVA3.out.ext hb4) (by have := HSZ.out; omega)
        rw [VD.val6, HDV.out, HRT.out] at hrg
        have HRG := Lib.hid hrg
        clear hb4 HAL HBL3 HVA3 HB3 hrg
        obtain ⟨c0, c1, c2, c3, c4, c5⟩ := HBL4.out.six
        go_wp2_with fail
        refine HRG.out.mono ?_
        rintro e W5 ⟨rfl, hb5⟩
        have HB5 := Lib.hid (HB4.out.trans (hb5.mono HB4.out.size))
        clear hb5 HRG c0 c1 c2 c3 c4 c5
        go_wp2
        go_ret
        exact ⟨rfl, HB5.out⟩
end Go.Proofs.YtahiopjplfnlmaaGreatDoor
