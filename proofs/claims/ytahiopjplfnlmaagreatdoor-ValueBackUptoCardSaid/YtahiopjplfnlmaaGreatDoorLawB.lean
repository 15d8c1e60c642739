/- ValueBack: walked. -/
import Derived.Test.YtahiopjplfnlmaaGreatDoorOfV
import Derived.Test.YtahiopjplfnlmaaGreatDoorLawA
namespace Go.Proofs.YtahiopjplfnlmaaGreatDoor
open Go Go.RowKit

theorem ret_bool {w W : World} {p : Prop} {b : Bool} {e : Ending} (h : Ret w (IsB p) e W) (hb : b = true ↔ p) : e = .returned (.bool b) ∧ Below w.heap.size w W := by
  obtain ⟨v, he, hbl, c, rfl, hc⟩ := h
  have : c = b := by
    cases c <;> cases b <;> simp_all
  rw [← this]; exact ⟨he, hbl⟩
/-- a copy, wherever it lies -/
def OfT (w : World) (v : V) (e : Ending) (w' : World) : Prop := ∃ d' : VD, e = .returned (.agg #[.int .i64 d'.sort, .bool d'.on, .int .i64 d'.n, .string ⟨d'.text.toArray⟩, .slice d'.a d'.list.length d'.c, .slice d'.ka d'.keys.length d'.kc]) ∧ d'.v = v ∧ ValAt w' (fun _ => True) d' ∧ Below w.heap.size w w'
theorem ofT_any (d : VD) (W : World) (h : ValAt W (fun _ => True) d) (hs : sizeV d.v ≤ 1048576) : Calls Tryz.prog 10 #[.agg #[.int .i64 d.sort, .bool d.on, .int .i64 d.n, .string ⟨d.text.toArray⟩, .slice d.a d.list.length d.c, .slice d.ka d.keys.length d.kc]] W (OfT W d.v) := by
  have h1 := of_any d W.heap.size W (Nat.le_refl _) (h.mono fun g _ hg => hg) hs
  rw [VD.val6] at h1
  refine h1.mono ?_
  rintro e w' ⟨d', rfl, hv, ha, hb⟩
  exact ⟨d', rfl, hv, ha.mono fun _ _ _ => trivial, hb⟩
/-- two arguments in their boxes -/
structure LB (w W : World) (d f : VD) : Prop where
  one : Blk W w.heap.size #[.int .i64 d.sort, .bool d.on, .int .i64 d.n, .string ⟨d.text.toArray⟩, .slice d.a d.list.length d.c, .slice d.ka d.keys.length d.kc] 26
  two : Blk W (w.heap.size + 1) #[.int .i64 f.sort, .bool f.on, .int .i64 f.n, .string ⟨f.text.toArray⟩, .slice f.a f.list.length f.c, .slice f.ka f.keys.length f.kc] 26
  glob : Glob W
  va : ValAt W (fun _ => True) d
  vb : ValAt W (fun _ => True) f
  below : Below w.heap.size w W
theorem LB.ext {w W W' : World} {d f : VD} (h : LB w W d f) (hb : Below W.heap.size W W') : LB w W' d f :=
  ⟨h.one.ext hb, h.two.ext hb, h.glob.ext hb, h.va.ext hb, h.vb.ext hb, h.below.trans (hb.mono h.below.size)⟩
theorem LB.start {w : World} {d f : VD} (hG : Glob w) (hd : ValAt w (fun _ => True) d) (hf : ValAt w (fun _ => True) f) :
    LB w ((w.alloc (.cells #[.int .i64 d.sort, .bool d.on, .int .i64 d.n, .string ⟨d.text.toArray⟩, .slice d.a d.list.length d.c, .slice d.ka d.keys.length d.kc] 26)).alloc (.cells #[.int .i64 f.sort, .bool f.on, .int .i64 f.n, .string ⟨f.text.toArray⟩, .slice f.a f.list.length f.c, .slice f.ka f.keys.length f.kc] 26)) d f := by
  have hb : Below w.heap.size w ((w.alloc (.cells #[.int .i64 d.sort, .bool d.on, .int .i64 d.n, .string ⟨d.text.toArray⟩, .slice d.a d.list.length d.c, .slice d.ka d.keys.length d.kc] 26)).alloc (.cells #[.int .i64 f.sort, .bool f.on, .int .i64 f.n, .string ⟨f.text.toArray⟩, .slice f.a f.list.length f.c, .slice f.ka f.keys.length f.kc] 26)) := (below_a1 w _).alloc (by simp) _
  exact ⟨(Blk.new rfl).alloc _, Blk.new (by simp), hG.ext hb, hd.ext hb, hf.ext hb, hb⟩

set_option maxHeartbeats 8000000 in
theorem lawB_any (d f : VD) (w : World) (hG : Glob w) (hd : ValAt w (fun _ => True) d) (hf : ValAt w (fun _ => True) f) (hds : sizeV d.v ≤ 1048576) (hfs : sizeV f.v ≤ 1048576) : Calls Tryz.prog 4 #[d.val, f.val] w (BoE w true) := by
  obtain ⟨W1, hW1⟩ : ∃ W1, W1 = (w.alloc (.cells #[.int .i64 d.sort, .bool d.on, .int .i64 d.n, .string ⟨d.text.toArray⟩, .slice d.a d.list.length d.c, .slice d.ka d.keys.length d.kc] 26)).alloc (.cells #[.int .i64 f.sort, .bool f.on, .int .i64 f.n, .string ⟨f.text.toArray⟩, .slice f.a f.list.length f.c, .slice f.ka f.keys.length f.kc] 26) := ⟨_, rfl⟩
  have HL1 : Hid (LB w W1 d f) := Lib.hid (by rw [hW1]; exact .start hG hd hf)
  have HS1 := Lib.hid hds
  have HS2 := Lib.hid hfs
  rw [VD.val6, VD.val6]
  clear hG hd hf hds hfs
  go_enter Tryz.func4, Tryz.ntmps4
  go_upto_region 1 with (fail)
  rw [← hW1]
  clear hW1
  have h1 := size_any d W1 HL1.out.va HS1.out
  rw [VD.val6] at h1
  have H1 := Lib.hid h1
  clear h1
  obtain ⟨c0, c1, c2, c3, c4, c5⟩ := HL1.out.one.sixT
  obtain ⟨e0, e1, e2, e3, e4, e5⟩ := HL1.out.two.sixT
  go_wp2_with fail
  refine H1.out.mono ?_
  clear H1 c0 c1 c2 c3 c4 c5 e0 e1 e2 e3 e4 e5
  rintro e W2 ⟨m1, rfl, hm1, hm2, hb2⟩
  have HL2 := Lib.hid (HL1.out.ext hb2)
  have HM1 := Lib.hid hm2
  have hm1' : m1 ≤ 1048576 := Nat.le_trans hm1 HS1.out
  clear hb2 hm1 hm2 HL1
  by_cases hbig : m1 ≤ 400
  case neg =>
    have hbi : (400 : Int) < m1 := by omega
    have hal := alive_any W2 HL2.out.glob
    have HAL := Lib.hid hal
    clear hal
    go_wp2_with fail
    refine HAL.out.mono ?_
    rintro e W3 ⟨rfl, hb3⟩
    have HB := Lib.hid (HL2.out.below.trans (hb3.mono HL2.out.below.size))
    clear hb3 HAL
    go_wp2
    go_ret
    exact ⟨rfl, HB.out⟩
  have hbi : ¬ ((400 : Int) < m1) := by omega
  have HSD : Hid (sizeV d.v ≤ 400) := Lib.hid (by rw [← HM1.out hbig]; exact hbig)
  clear hbig hm1'
  have h1 := size_any f W2 HL2.out.vb HS2.out
  rw [VD.val6] at h1
  have H1 := Lib.hid h1
  clear h1
  obtain ⟨c0, c1, c2, c3, c4, c5⟩ := HL2.out.one.sixT
  obtain ⟨e0, e1, e2, e3, e4, e5⟩ := HL2.out.two.sixT
  go_wp2_with fail
  refine H1.out.mono ?_
  clear H1 c0 c1 c2 c3 c4 c5 e0 e1 e2 e3 e4 e5
  rintro e W3 ⟨n1, rfl, hn1, hn2, hb3⟩
  have HL3 := Lib.hid (HL2.out.ext hb3)
  have HN1 := Lib.hid hn2
  have hn1' : n1 ≤ 1048576 := Nat.le_trans hn1 HS2.out
  clear hb3 hn1 hn2 HL2 HM1
  by_cases hbig : n1 ≤ 400
  case neg =>
    have hbi2 : (400 : Int) < n1 := by omega
    have hal := alive_any W3 HL3.out.glob
    have HAL := Lib.hid hal
    clear hal
    go_wp2_with fail
    refine HAL.out.mono ?_
    rintro e W4 ⟨rfl, hb4⟩
    have HB := Lib.hid (HL3.out.below.trans (hb4.mono HL3.out.below.size))
    clear hb4 HAL
    go_wp2
    go_ret
    exact ⟨rfl, HB.out⟩
  have hbi2 : ¬ ((400 : Int) < n1) := by omega
  have HSF : Hid (sizeV f.v ≤ 400) := Lib.hid (by rw [← HN1.out hbig]; exact hbig)
  clear hbig hn1' HN1
  have h1 := ofT_any d W3 HL3.out.va HS1.out
  have H1 := Lib.hid h1
  clear h1
  obtain ⟨c0, c1, c2, c3, c4, c5⟩ := HL3.out.one.sixT
  obtain ⟨e0, e1, e2, e3, e4, e5⟩ := HL3.out.two.sixT
  go_wp2_with fail
  refine H1.out.mono ?_
  clear H1 c0 c1 c2 c3 c4 c5 e0 e1 e2 e3 e4 e5
  rintro e W4 ⟨g1, rfl, hg1, hga, hb4⟩
  have HL4 := Lib.hid (HL3.out.ext hb4)
  have h1 := vwrite_any g1 W4 HL4.out.glob hga (by rw [hg1]; exact HS1.out)
  rw [VD.val6, hg1] at h1
  clear hb4 hg1 hga HL3
  obtain ⟨sd, kd, hsd, hkd⟩ : ∃ (sd : Nm) (kd : Int), wrote d.v = .tuple #[.string ⟨sd.toArray⟩, .int .i64 kd] ∧ (if right 20 d.v = true then sd = textV d.v ∧ kd = 0 else kd = 21) := wrote_two _
  rw [hsd] at h1
  have H1 := Lib.hid h1
  have HKD := Lib.hid hkd
  clear h1 hsd hkd
  go_wp2_with fail
  refine H1.out.mono ?_
  clear H1
  rintro e W5 ⟨rfl, hb5⟩
  have HL5 := Lib.hid (HL4.out.ext hb5)
  clear hb5 HL4
  have h1 := ofT_any f W5 HL5.out.vb HS2.out
  have H1 := Lib.hid h1
  clear h1
  obtain ⟨c0, c1, c2, c3, c4, c5⟩ := HL5.out.one.sixT
  obtain ⟨e0, e1, e2, e3, e4, e5⟩ := HL5.out.two.sixT
  go_wp2_with fail
  refine H1.out.mono ?_
  clear H1 c0 c1 c2 c3 c4 c5 e0 e1 e2 e3 e4 e5
  rintro e W6 ⟨g2, rfl, hg2, hga, hb6⟩
  have HL6 := Lib.hid (HL5.out.ext hb6)
  have h1 := vwrite_any g2 W6 HL6.out.glob hga (by rw [hg2]; exact HS2.out)
  rw [VD.val6, hg2] at h1
  clear hb6 hg2 hga HL5
  obtain ⟨sf, kf, hsf, hkf⟩ : ∃ (sd : Nm) (kd : Int), wrote f.v = .tuple #[.string ⟨sd.toArray⟩, .int .i64 kd] ∧ (if right 20 f.v = true then sd = textV f.v ∧ kd = 0 else kd = 21) := wrote_two _
  rw [hsf] at h1
  have H1 := Lib.hid h1
  have HKF := Lib.hid hkf
  clear h1 hsf hkf
  go_wp2_with fail
  refine H1.out.mono ?_
  clear H1
  rintro e W7 ⟨rfl, hb7⟩
  have HL7 := Lib.hid (HL6.out.ext hb7)
  clear hb7 HL6
  obtain ⟨rd, hrd⟩ : ∃ rd, rd = right 20 d.v := ⟨_, rfl⟩
  obtain ⟨rf, hrf⟩ : ∃ rf, rf = right 20 f.v := ⟨_, rfl⟩
  have HRD := Lib.hid hrd
  have HRF := Lib.hid hrf
  have hkd := HKD.out
  have hkf := HKF.out
  rw [← hrd] at hkd
  rw [← hrf] at hkf
  clear HKD HKF hrd hrf
  by_cases hboth : rd = true ∧ rf = true
  case neg =>
    obtain ⟨z, hz⟩ : ∃ z : Bool, z = (kd == 0) := ⟨_, rfl⟩
    have hzr : z = rd := by
      rw [hz]
      cases rd with
      | true => rw [if_pos rfl] at hkd; rw [hkd.2]; rfl
      | false => rw [if_neg (by decide)] at hkd; rw [hkd]; rfl
    have hal := alive_any W7 HL7.out.glob
    have HAL := Lib.hid hal
    clear hal
    cases rd with
    | true =>
      have hrf : rf = false := by cases rf with
        | true => exact absurd ⟨rfl, rfl⟩ hboth
        | false => rfl
      subst hrf
      rw [if_pos rfl] at hkd
      rw [if_neg (by decide)] at hkf
      obtain ⟨-, rfl⟩ := hkd
      subst hkf
      clear hboth hz hzr
      go_wp2_with fail
      refine HAL.out.mono ?_
      clear HAL
      rintro e W8 ⟨rfl, hb8⟩
      have HL8 := Lib.hid (HL7.out.ext hb8)
      clear hb8 HL7
      have h1 := ofT_any d W8 HL8.out.va HS1.out
      have H1 := Lib.hid h1
      clear h1
      obtain ⟨c0, c1, c2, c3, c4, c5⟩ := HL8.out.one.sixT
      go_wp2_with fail
      refine H1.out.mono ?_
      clear H1 c0 c1 c2 c3 c4 c5
      rintro e W9 ⟨g3, rfl, hg3, hga, hb9⟩
      have HL9 := Lib.hid (HL8.out.ext hb9)
      have h1 := vright_any g3 W9 HL9.out.glob hga (by rw [hg3]; exact HS1.out)
      rw [VD.val6, hg3, ← HRD.out] at h1
      have H1 := Lib.hid h1
      clear h1 hb9 hg3 hga HL8
      go_wp2_with fail
      refine H1.out.mono ?_
      clear H1
      rintro e W10 ⟨rfl, hb10⟩
      have HB := Lib.hid (HL9.out.below.trans (hb10.mono HL9.out.below.size))
      clear hb10
      go_wp2
      go_ret
      exact ⟨rfl, HB.out⟩
    | false =>
      rw [if_neg (by decide)] at hkd
      subst hkd
      clear hboth hz hzr hkf
      go_wp2_with fail
      refine HAL.out.mono ?_
      clear HAL
      rintro e W8 ⟨rfl, hb8⟩
      have HL8 := Lib.hid (HL7.out.ext hb8)
      clear hb8 HL7
      have h1 := ofT_any d W8 HL8.out.va HS1.out
      have H1 := Lib.hid h1
      clear h1
      obtain ⟨c0, c1, c2, c3, c4, c5⟩ := HL8.out.one.sixT
      go_wp2_with fail
      refine H1.out.mono ?_
      clear H1 c0 c1 c2 c3 c4 c5
      rintro e W9 ⟨g3, rfl, hg3, hga, hb9⟩
      have HL9 := Lib.hid (HL8.out.ext hb9)
      have h1 := vright_any g3 W9 HL9.out.glob hga (by rw [hg3]; exact HS1.out)
      rw [VD.val6, hg3, ← HRD.out] at h1
      have H1 := Lib.hid h1
      clear h1 hb9 hg3 hga HL8
      go_wp2_with fail
      refine H1.out.mono ?_
      clear H1
      rintro e W10 ⟨rfl, hb10⟩
      have HB := Lib.hid (HL9.out.below.trans (hb10.mono HL9.out.below.size))
      clear hb10
      go_wp2
      go_ret
      exact ⟨rfl, HB.out⟩
  obtain ⟨rfl, rfl⟩ := hboth
  rw [if_pos rfl] at hkd hkf
  obtain ⟨rfl, rfl⟩ := hkd
  obtain ⟨rfl, rfl⟩ := hkf
  have h1 := read_any (textV d.v) W7 HL7.out.glob (by have := textV_len d.v (right_form HRD.out.symm); have := HSD.out; omega)
  rw [readL_text HRD.out.symm] at h1
  have H1 := Lib.hid h1
  clear h1
  go_wp2_with fail
  refine H1.out.mono ?_
  clear H1
  intro e W8 h8
  obtain ⟨dx, rfl, hdx, hxa, hb8⟩ := readE_ok h8
  obtain ⟨W0, hW0⟩ : ∃ W0, W0 = W8.alloc (.cells #[.int .i64 dx.sort, .bool dx.on, .int .i64 dx.n, .string ⟨dx.text.toArray⟩, .slice dx.a dx.list.length dx.c, .slice dx.ka dx.keys.length dx.kc] 34) := ⟨_, rfl⟩
  obtain ⟨bx, hbx⟩ : ∃ bx, bx = W8.heap.size := ⟨_, rfl⟩
  have hb80 : Below W7.heap.size W7 W0 := by rw [hW0]; exact hb8.alloc hb8.size _
  have HLB := Lib.hid (HL7.out.ext hb80)
  have HBX : Hid (Blk W0 bx #[.int .i64 dx.sort, .bool dx.on, .int .i64 dx.n, .string ⟨dx.text.toArray⟩, .slice dx.a dx.list.length dx.c, .slice dx.ka dx.keys.length dx.kc] 34) := Lib.hid (by rw [hW0, hbx]; exact Blk.new rfl)
  have HX : Hid (ValAt W0 (fun _ => True) dx) := Lib.hid (by rw [hW0]; exact hxa.ext (below_a1 _ _))
  have HDX := Lib.hid hdx
  clear hdx hxa hb8 h8 HL7 hb80
  go_upto_region 8 with (fail)
  rw [← hW0, ← hbx]
  clear hW0 hbx
  have CA : Hid (∀ W, Below W0.heap.size W0 W → Calls Tryz.prog 8 #[] W (BoE W true)) := Lib.hid fun W hW => alive_any W (HLB.out.glob.ext hW)
  have CO : Hid (∀ W, Below W0.heap.size W0 W → Calls Tryz.prog 10 #[.agg #[.int .i64 d.sort, .bool d.on, .int .i64 d.n, .string ⟨d.text.toArray⟩, .slice d.a d.list.length d.c, .slice d.ka d.keys.length d.kc]] W (OfT W d.v)) := Lib.hid fun W hW => ofT_any d W (HLB.out.va.ext hW) HS1.out
  have CP : Hid (∀ W, Below W0.heap.size W0 W → Calls Tryz.prog 10 #[.agg #[.int .i64 f.sort, .bool f.on, .int .i64 f.n, .string ⟨f.text.toArray⟩, .slice f.a f.list.length f.c, .slice f.ka f.keys.length f.kc]] W (OfT W f.v)) := Lib.hid fun W hW => ofT_any f W (HLB.out.vb.ext hW) HS2.out
  have HK : Hid (∀ w', Below W0.heap.size W0 w' → (w'.cell? ⟨w.heap.size, 0, none⟩ = some (.int .i64 d.sort) ∧ w'.cell? ⟨w.heap.size, 1, none⟩ = some (.bool d.on) ∧ w'.cell? ⟨w.heap.size, 2, none⟩ = some (.int .i64 d.n) ∧ w'.cell? ⟨w.heap.size, 3, none⟩ = some (.string ⟨d.text.toArray⟩) ∧ w'.cell? ⟨w.heap.size, 4, none⟩ = some (.slice d.a d.list.length d.c) ∧ w'.cell? ⟨w.heap.size, 5, none⟩ = some (.slice d.ka d.keys.length d.kc)) ∧ (w'.cell? ⟨(w.heap.size + 1), 0, none⟩ = some (.int .i64 f.sort) ∧ w'.cell? ⟨(w.heap.size + 1), 1, none⟩ = some (.bool f.on) ∧ w'.cell? ⟨(w.heap.size + 1), 2, none⟩ = some (.int .i64 f.n) ∧ w'.cell? ⟨(w.heap.size + 1), 3, none⟩ = some (.string ⟨f.text.toArray⟩) ∧ w'.cell? ⟨(w.heap.size + 1), 4, none⟩ = some (.slice f.a f.list.length f.c) ∧ w'.cell? ⟨(w.heap.size + 1), 5, none⟩ = some (.slice f.ka f.keys.length f.kc)) ∧ (w'.cell? ⟨bx, 0, none⟩ = some (.int .i64 dx.sort) ∧ w'.cell? ⟨bx, 1, none⟩ = some (.bool dx.on) ∧ w'.cell? ⟨bx, 2, none⟩ = some (.int .i64 dx.n) ∧ w'.cell? ⟨bx, 3, none⟩ = some (.string ⟨dx.text.toArray⟩) ∧ w'.cell? ⟨bx, 4, none⟩ = some (.slice dx.a dx.list.length dx.c) ∧ w'.cell? ⟨bx, 5, none⟩ = some (.slice dx.ka dx.keys.length dx.kc))) := Lib.hid fun w' hb => ⟨(HLB.out.one.ext hb).sixT, (HLB.out.two.ext hb).sixT, (HBX.out.ext hb).sixT⟩
  have HSZ := HS1
  obtain ⟨tb, htb⟩ : ∃ tb, (textV d.v == textV f.v) = tb := ⟨_, rfl⟩
  have HTB : Hid (tb = true ↔ d.v = f.v) := Lib.hid (by
    rw [← htb, beq_iff_eq]
    exact ⟨fun h => text_inj HRD.out.symm HRF.out.symm h, fun h => by rw [h]⟩)
  generalize textV d.v = T1 at *
  generalize textV f.v = T2 at *
  refine wp_region_held_drew (S := fun w' => (w'.cell? ⟨w.heap.size, 0, none⟩ = some (.int .i64 d.sort) ∧ w'.cell? ⟨w.heap.size, 1, none⟩ = some (.bool d.on) ∧ w'.cell? ⟨w.heap.size, 2, none⟩ = some (.int .i64 d.n) ∧ w'.cell? ⟨w.heap.size, 3, none⟩ = some (.string ⟨d.text.toArray⟩) ∧ w'.cell? ⟨w.heap.size, 4, none⟩ = some (.slice d.a d.list.length d.c) ∧ w'.cell? ⟨w.heap.size, 5, none⟩ = some (.slice d.ka d.keys.length d.kc)) ∧ (w'.cell? ⟨(w.heap.size + 1), 0, none⟩ = some (.int .i64 f.sort) ∧ w'.cell? ⟨(w.heap.size + 1), 1, none⟩ = some (.bool f.on) ∧ w'.cell? ⟨(w.heap.size + 1), 2, none⟩ = some (.int .i64 f.n) ∧ w'.cell? ⟨(w.heap.size + 1), 3, none⟩ = some (.string ⟨f.text.toArray⟩) ∧ w'.cell? ⟨(w.heap.size + 1), 4, none⟩ = some (.slice f.a f.list.length f.c) ∧ w'.cell? ⟨(w.heap.size + 1), 5, none⟩ = some (.slice f.ka f.keys.length f.kc)) ∧ (w'.cell? ⟨bx, 0, none⟩ = some (.int .i64 dx.sort) ∧ w'.cell? ⟨bx, 1, none⟩ = some (.bool dx.on) ∧ w'.cell? ⟨bx, 2, none⟩ = some (.int .i64 dx.n) ∧ w'.cell? ⟨bx, 3, none⟩ = some (.string ⟨dx.text.toArray⟩) ∧ w'.cell? ⟨bx, 4, none⟩ = some (.slice dx.a dx.list.length dx.c) ∧ w'.cell? ⟨bx, 5, none⟩ = some (.slice dx.ka dx.keys.length dx.kc))) (by kernel_rfl) ?_ (fun hHeld => ?_)
  · first | exact HK.out _ HB.out | exact HK.out _ (Below.refl _ _).drew
  refine wpAnyH_ready (rs := [0]) (by kernel_rfl) (by simp) ?_
  refine AllReadyH.cons (i := 0) (o := ⟨some 52, _, _, _, _, _⟩) rfl (fun K hK => ?_) ?_
  · go_simp
    refine (CA.out _ (Below.refl _ _).drew).mono ?_
    rintro e1 w1 ⟨rfl, hb1⟩
    have HB : Hid (Below W0.heap.size W0 w1) := Lib.hid ((Below.refl _ _).drew.trans hb1)
    clear hb1
    refine hK.out _ _ ?_ (fun hHeld => ?_)
    · first | exact HK.out _ HB.out | exact HK.out _ (Below.refl _ _).drew
    try simp only [Act.put]
    try simp only [List.setIfInBounds_toArray]
    try simp only [List.set_cons_succ, List.set_cons_zero]
    refine wpAnyH_take (i := 1) (oi := ⟨some 53, _, _, _, _, _⟩) (v := ?_) rfl (by kernel_rfl) (by kernel_rfl) (by kernel_rfl) (fun _ _ _ h => h) (Or.inl ⟨by rfl, ?_⟩) (by assumption) ?_; rotate_left; focus (intro w hSw; (try dsimp only at hSw); first | (go_simp; done) | (go_simp; with_reducible rfl))
    try simp only [Act.put]
    try simp only [List.setIfInBounds_toArray]
    try simp only [List.set_cons_succ, List.set_cons_zero]
    refine wpAnyH_take (i := 2) (oi := ⟨some 54, _, _, _, _, _⟩) (v := ?_) rfl (by kernel_rfl) (by kernel_rfl) (by kernel_rfl) (fun _ _ _ h => h) (Or.inl ⟨by rfl, ?_⟩) (by assumption) ?_; rotate_left; focus (intro w hSw; (try dsimp only at hSw); first | (go_simp; done) | (go_simp; with_reducible rfl))
    try simp only [Act.put]
    try simp only [List.setIfInBounds_toArray]
    try simp only [List.set_cons_succ, List.set_cons_zero]
    refine wpAnyH_take (i := 3) (oi := ⟨some 55, _, _, _, _, _⟩) (v := ?_) rfl (by kernel_rfl) (by kernel_rfl) (by kernel_rfl) (fun _ _ _ h => h) (Or.inl ⟨by rfl, ?_⟩) (by assumption) ?_; rotate_left; focus (intro w hSw; (try dsimp only at hSw); first | (go_simp; done) | (go_simp; with_reducible rfl))
    try simp only [Act.put]
    try simp only [List.setIfInBounds_toArray]
    try simp only [List.set_cons_succ, List.set_cons_zero]
    refine wpAnyH_take (i := 4) (oi := ⟨some 56, _, _, _, _, _⟩) (v := ?_) rfl (by kernel_rfl) (by kernel_rfl) (by kernel_rfl) (fun _ _ _ h => h) (Or.inl ⟨by rfl, ?_⟩) (by assumption) ?_; rotate_left; focus (intro w hSw; (try dsimp only at hSw); first | (go_simp; done) | (go_simp; with_reducible rfl))
    try simp only [Act.put]
    try simp only [List.setIfInBounds_toArray]
    try simp only [List.set_cons_succ, List.set_cons_zero]
    refine wpAnyH_take (i := 5) (oi := ⟨some 57, _, _, _, _, _⟩) (v := ?_) rfl (by kernel_rfl) (by kernel_rfl) (by kernel_rfl) (fun _ _ _ h => h) (Or.inl ⟨by rfl, ?_⟩) (by assumption) ?_; rotate_left; focus (intro w hSw; (try dsimp only at hSw); first | (go_simp; done) | (go_simp; with_reducible rfl))
    try simp only [Act.put]
    try simp only [List.setIfInBounds_toArray]
    try simp only [List.set_cons_succ, List.set_cons_zero]
    refine wpAnyH_take (i := 6) (oi := ⟨some 58, _, _, _, _, _⟩) (v := ?_) rfl (by kernel_rfl) (by kernel_rfl) (by kernel_rfl) (fun _ _ _ h => h) (Or.inl ⟨by rfl, ?_⟩) (by assumption) ?_; rotate_left; focus (intro w hSw; (try dsimp only at hSw); obtain ⟨⟨a0, a1, a2, a3, a4, a5⟩, ⟨b0, b1, b2, b3, b4, b5⟩, c0, c1, c2, c3, c4, c5⟩ := hSw; first | (go_simp; done) | (go_simp; with_reducible rfl))
    try simp only [Act.put]
    try simp only [List.setIfInBounds_toArray]
    try simp only [List.set_cons_succ, List.set_cons_zero]
    refine wpAnyH_take (i := 7) (oi := ⟨some 59, _, _, _, _, _⟩) (v := ?_) rfl (by kernel_rfl) (by kernel_rfl) (by kernel_rfl) (fun _ _ _ h => h) (Or.inl ⟨by rfl, ?_⟩) (by assumption) ?_; rotate_left; focus (intro w hSw; (try dsimp only at hSw); obtain ⟨⟨a0, a1, a2, a3, a4, a5⟩, ⟨b0, b1, b2, b3, b4, b5⟩, c0, c1, c2, c3, c4, c5⟩ := hSw; first | (go_simp; done) | (go_simp; with_reducible rfl))
    try simp only [Act.put]
    try simp only [List.setIfInBounds_toArray]
    try simp only [List.set_cons_succ, List.set_cons_zero]
    refine wpAnyH_ready (rs := [8]) (by kernel_rfl) (by simp) ?_
    refine AllReadyH.cons (i := 8) (o := ⟨some 60, _, _, _, _, _⟩) rfl (fun K hK => ?_) ?_
    · go_simp
      refine (CO.out _ HB.out).mono ?_
      rintro e2 w2 ⟨d2, rfl, hd2, hva2, hb2⟩
      have HB1 := HB
      clear HB
      have HB : Hid (Below W0.heap.size W0 w2) := Lib.hid (HB1.out.trans (hb2.mono HB1.out.size))
      have HD2 := Lib.hid hd2
      have HVA2 := Lib.hid hva2
      clear hb2 hd2 hva2
      refine hK.out _ _ ?_ (fun hHeld => ?_)
      · exact HK.out _ HB.out
      try simp only [Act.put]
      try simp only [List.setIfInBounds_toArray]
      try simp only [List.set_cons_succ, List.set_cons_zero]
      refine wpAnyH_ready (rs := [9]) (by kernel_rfl) (by simp) ?_
      refine AllReadyH.cons (i := 9) (o := ⟨some 61, _, _, _, _, _⟩) rfl (fun K hK => ?_) ?_
      · go_simp
        have hsm := same_any dx d2 w2 (HX.out.ext HB.out) HVA2.out (by rw [HDX.out]; exact HSZ.out)
        rw [VD.val6, VD.val6] at hsm
        refine hsm.mono ?_
        clear hsm
        intro e3 w3 h3
        obtain ⟨rfl, hb3⟩ := ret_same h3 (by rw [HDX.out, HD2.out])
        have HB2 := HB
        clear HB
        have HB : Hid (Below W0.heap.size W0 w3) := Lib.hid (HB2.out.trans (hb3.mono HB2.out.size))
        clear h3 hb3
        refine hK.out _ _ ?_ (fun hHeld => ?_)
        · exact HK.out _ HB.out
        try simp only [Act.put]
        try simp only [List.setIfInBounds_toArray]
        try simp only [List.set_cons_succ, List.set_cons_zero]
        refine wpAnyH_take (i := 10) (oi := ⟨some 62, _, _, _, _, _⟩) (v := ?_) rfl (by kernel_rfl) (by kernel_rfl) (by kernel_rfl) (fun _ _ _ h => h) (Or.inl ⟨by rfl, ?_⟩) (by assumption) ?_; rotate_left; focus (intro w hSw; (try dsimp only at hSw); first | (go_simp; done) | (go_simp; with_reducible rfl))
        try simp only [Act.put]
        try simp only [List.setIfInBounds_toArray]
        try simp only [List.set_cons_succ, List.set_cons_zero]
        refine wpAnyH_take (i := 11) (oi := ⟨some 63, _, _, _, _, _⟩) (v := ?_) rfl (by kernel_rfl) (by kernel_rfl) (by kernel_rfl) (fun _ _ _ h => h) (Or.inl ⟨by rfl, ?_⟩) (by assumption) ?_; rotate_left; focus (intro w hSw; (try dsimp only at hSw); first | (go_simp; done) | (go_simp; with_reducible rfl))
        try simp only [Act.put]
        try simp only [List.setIfInBounds_toArray]
        try simp only [List.set_cons_succ, List.set_cons_zero]
        refine wpAnyH_take (i := 12) (oi := ⟨some 64, _, _, _, _, _⟩) (v := ?_) rfl (by kernel_rfl) (by kernel_rfl) (by kernel_rfl) (fun _ _ _ h => h) (Or.inl ⟨by rfl, ?_⟩) (by assumption) ?_; rotate_left; focus (intro w hSw; (try dsimp only at hSw); first | (go_simp; done) | (go_simp; with_reducible rfl))
        try simp only [Act.put]
        try simp only [List.setIfInBounds_toArray]
        try simp only [List.set_cons_succ, List.set_cons_zero]
        refine wpAnyH_take (i := 13) (oi := ⟨some 65, _, _, _, _, _⟩) (v := ?_) rfl (by kernel_rfl) (by kernel_rfl) (by kernel_rfl) (fun _ _ _ h => h) (Or.inl ⟨by rfl, ?_⟩) (by assumption) ?_; rotate_left; focus (intro w hSw; (try dsimp only at hSw); first | (go_simp; done) | (go_simp; with_reducible rfl))
        try simp only [Act.put]
        try simp only [List.setIfInBounds_toArray]
        try simp only [List.set_cons_succ, List.set_cons_zero]
        refine wpAnyH_take (i := 14) (oi := ⟨some 66, _, _, _, _, _⟩) (v := ?_) rfl (by kernel_rfl) (by kernel_rfl) (by kernel_rfl) (fun _ _ _ h => h) (Or.inl ⟨by rfl, ?_⟩) (by assumption) ?_; rotate_left; focus (intro w hSw; (try dsimp only at hSw); first | (go_simp; done) | (go_simp; with_reducible rfl))
        try simp only [Act.put]
        try simp only [List.setIfInBounds_toArray]
        try simp only [List.set_cons_succ, List.set_cons_zero]
        refine wpAnyH_take (i := 15) (oi := ⟨some 67, _, _, _, _, _⟩) (v := ?_) rfl (by kernel_rfl) (by kernel_rfl) (by kernel_rfl) (fun _ _ _ h => h) (Or.inl ⟨by rfl, ?_⟩) (by assumption) ?_; rotate_left; focus (intro w hSw; (try dsimp only at hSw); obtain ⟨⟨a0, a1, a2, a3, a4, a5⟩, ⟨b0, b1, b2, b3, b4, b5⟩, c0, c1, c2, c3, c4, c5⟩ := hSw; first | (go_simp; done) | (go_simp; with_reducible rfl))
        try simp only [Act.put]
        try simp only [List.setIfInBounds_toArray]
        try simp only [List.set_cons_succ, List.set_cons_zero]
        refine wpAnyH_take (i := 17) (oi := ⟨some 69, _, _, _, _, _⟩) (v := ?_) rfl (by kernel_rfl) (by kernel_rfl) (by kernel_rfl) (fun _ _ _ h => h) (Or.inl ⟨by rfl, ?_⟩) (by assumption) ?_; rotate_left; focus (intro w hSw; (try dsimp only at hSw); obtain ⟨⟨a0, a1, a2, a3, a4, a5⟩, ⟨b0, b1, b2, b3, b4, b5⟩, c0, c1, c2, c3, c4, c5⟩ := hSw; first | (go_simp; done) | (go_simp; with_reducible rfl))
        try simp only [Act.put]
        try simp only [List.setIfInBounds_toArray]
        try simp only [List.set_cons_succ, List.set_cons_zero]
        refine wpAnyH_ready (rs := [16]) (by kernel_rfl) (by simp) ?_
        refine AllReadyH.cons (i := 16) (o := ⟨some 68, _, _, _, _, _⟩) rfl (fun K hK => ?_) ?_
        · go_simp
          refine (CO.out _ HB.out).mono ?_
          rintro e4 w4 ⟨d4, rfl, hd4, hva4, hb4⟩
          have HB4 := HB
          clear HB
          have HB : Hid (Below W0.heap.size W0 w4) := Lib.hid (HB4.out.trans (hb4.mono HB4.out.size))
          have HD4 := Lib.hid hd4
          have HVA4 := Lib.hid hva4
          clear hb4 hd4 hva4
          refine hK.out _ _ ?_ (fun hHeld => ?_)
          · exact HK.out _ HB.out
          try simp only [Act.put]
          try simp only [List.setIfInBounds_toArray]
          try simp only [List.set_cons_succ, List.set_cons_zero]
          refine wpAnyH_ready (rs := [18]) (by kernel_rfl) (by simp) ?_
          refine AllReadyH.cons (i := 18) (o := ⟨some 70, _, _, _, _, _⟩) rfl (fun K hK => ?_) ?_
          · go_simp
            refine (CP.out _ HB.out).mono ?_
            rintro e5 w5 ⟨d5, rfl, hd5, hva5, hb5⟩
            have HB5 := HB
            clear HB
            have HB : Hid (Below W0.heap.size W0 w5) := Lib.hid (HB5.out.trans (hb5.mono HB5.out.size))
            have HD5 := Lib.hid hd5
            have HVA5 := Lib.hid hva5
            have HVA4b := Lib.hid (HVA4.out.ext hb5)
            clear hb5 hd5 hva5
            refine hK.out _ _ ?_ (fun hHeld => ?_)
            · exact HK.out _ HB.out
            try simp only [Act.put]
            try simp only [List.setIfInBounds_toArray]
            try simp only [List.set_cons_succ, List.set_cons_zero]
            refine wpAnyH_ready (rs := [19]) (by kernel_rfl) (by simp) ?_
            refine AllReadyH.cons (i := 19) (o := ⟨some 71, _, _, _, _, _⟩) rfl (fun K hK => ?_) ?_
            · go_simp
              have hsm := same_any d4 d5 w5 HVA4b.out HVA5.out (by rw [HD4.out]; exact HSZ.out)
              rw [VD.val6, VD.val6] at hsm
              refine hsm.mono ?_
              clear hsm
              intro e6 w6 h6
              obtain ⟨rfl, hb6⟩ := ret_bool h6 (b := tb) (by rw [HTB.out, HD4.out, HD5.out])
              have HB6 := HB
              clear HB
              have HB : Hid (Below W0.heap.size W0 w6) := Lib.hid (HB6.out.trans (hb6.mono HB6.out.size))
              clear h6 hb6
              refine hK.out _ _ ?_ (fun hHeld => ?_)
              · exact HK.out _ HB.out
              try simp only [Act.put]
              try simp only [List.setIfInBounds_toArray]
              try simp only [List.set_cons_succ, List.set_cons_zero]
              refine wpAnyH_take (i := 20) (oi := ⟨some 72, _, _, _, _, _⟩) (v := ?_) rfl (by kernel_rfl) (by kernel_rfl) (by kernel_rfl) (fun _ _ _ h => h) (Or.inl ⟨by rfl, ?_⟩) (by assumption) ?_; rotate_left; focus (intro w hSw; (try dsimp only at hSw); first | (go_simp; done) | (go_simp; with_reducible rfl))
              try simp only [Act.put]
              try simp only [List.setIfInBounds_toArray]
              try simp only [List.set_cons_succ, List.set_cons_zero]
              refine wpAnyH_take (i := 21) (oi := ⟨some 73, _, _, _, _, _⟩) (v := ?_) rfl (by kernel_rfl) (by kernel_rfl) (by kernel_rfl) (fun _ _ _ h => h) (Or.inl ⟨by rfl, ?_⟩) (by assumption) ?_; rotate_left; focus (intro w hSw; (try dsimp only at hSw); first | (go_simp; done) | (go_simp; with_reducible rfl))
              try simp only [Act.put]
              try simp only [List.setIfInBounds_toArray]
              try simp only [List.set_cons_succ, List.set_cons_zero]
              refine wpAnyH_take (i := 22) (oi := ⟨some 4, _, _, _, _, _⟩) (v := ?_) rfl (by kernel_rfl) (by kernel_rfl) (by kernel_rfl) (fun _ _ _ h => h) (Or.inl ⟨by rfl, ?_⟩) (by assumption) ?_; rotate_left; focus (intro w hSw; (try dsimp only at hSw); first | (go_simp; done) | (go_simp; with_reducible rfl))
              try simp only [Act.put]
              try simp only [List.setIfInBounds_toArray]
              try simp only [List.set_cons_succ, List.set_cons_zero]
              refine wpAnyH_done (by kernel_rfl) ?_ _
              go_wp2
              go_ret
              exact ⟨rfl, HLB.out.below.trans (HB.out.mono HLB.out.below.size)⟩
            exact AllReadyH.nil
          exact AllReadyH.nil
        exact AllReadyH.nil
      exact AllReadyH.nil
    exact AllReadyH.nil
  exact AllReadyH.nil
end Go.Proofs.YtahiopjplfnlmaaGreatDoor
