/- escaped: what stands behind a backslash; walked. -/
import Derived.Test.YtahiopjplfnlmaaGreatDoorUnit
namespace Go.Proofs.YtahiopjplfnlmaaGreatDoor
open Go Go.RowKit

theorem encode_scalar {n : Nat} (h : Scalar n) : Utf8.encode (n : Int) = ⟨(scalarB n).toArray⟩ := by
  unfold Scalar at h
  unfold Utf8.encode scalarB
  have hv : Utf8.valid (n : Int) = true := by
    unfold Utf8.valid
    simp only [Bool.and_eq_true, Bool.or_eq_true, decide_eq_true_eq]
    omega
  rw [if_pos hv]
  simp only [Int.toNat_natCast]
  repeat' split
  all_goals rfl
def escSet : Nm := [34, 92, 47, 98, 102, 110, 114, 116]
theorem esc_idx {c x : UInt8} (h : escB c = some x) : ∃ i : Nat, i < 8 ∧ Lib.indexByte escSet c = i ∧ (⟨#[34, 92, 47, 8, 12, 10, 13, 9]⟩ : ByteArray).extract i (i + 1) = ⟨#[x]⟩ := by
  unfold escB at h
  repeat' split at h
  all_goals first
    | (cases h; done)
    | (rename_i he; subst he; injection h with h; subst h; first | exact ⟨0, by decide, by decide, rfl⟩ | exact ⟨1, by decide, by decide, rfl⟩ | exact ⟨2, by decide, by decide, rfl⟩ | exact ⟨3, by decide, by decide, rfl⟩ | exact ⟨4, by decide, by decide, rfl⟩ | exact ⟨5, by decide, by decide, rfl⟩ | exact ⟨6, by decide, by decide, rfl⟩ | exact ⟨7, by decide, by decide, rfl⟩)
theorem esc_none {c : UInt8} (h : escB c = none) : Lib.indexByte escSet c < 0 := by
  have hm := indexByte_mem escSet c
  have : ¬ c ∈ escSet := by
    intro hc
    unfold escSet at hc
    simp only [List.mem_cons, List.not_mem_nil, or_false] at hc
    rcases hc with rfl | rfl | rfl | rfl | rfl | rfl | rfl | rfl <;> (revert h; decide)
  rw [← hm] at this
  omega

/-- a scanner's method that says no: all but the reader as it was -/
def ScN (w : World) (b : Nat) (o : Int) (e : Ending) (w' : World) : Prop := ∃ (x t : Nm), e = .returned (.tuple #[strV x, .bool false]) ∧ Keep b w w' ∧ RdAt w' b t o
theorem scN_nil {w w' : World} {b : Nat} {o : Int} {t : Nm} (h : Keep b w w') (k : RdAt w' b t o) : ScN w b o (.returned (.tuple #[.string { data := #[] }, .bool false])) w' := ⟨[], t, rfl, h, k⟩
theorem scN_ba {w w' : World} {b : Nat} {o : Int} {t : Nm} (z : ByteArray) (h : Keep b w w') (k : RdAt w' b t o) : ScN w b o (.returned (.tuple #[.string z, .bool false])) w' := ⟨z.data.toList, t, by rw [strV_data], h, k⟩

theorem index_any (c : UInt8) (w : World) : Calls Tryz.prog 74 #[.string { data := #[34, 92, 47, 98, 102, 110, 114, 116] }, .int .u8 c.toNat] w fun e w' => e = .returned (.int .i64 (Lib.indexByte escSet c)) ∧ w' = w := by
  have h1 := Tryz.strings_IndexByte ⟨escSet.toArray⟩ c.toNat w
  rw [data_nm] at h1
  have e : (c.toNat : Int).toNat.toUInt8 = c := by simp
  rw [e] at h1
  exact h1

theorem escaped_nil (b : Nat) (o : Int) (w : World) (h : RdAt w b [] o) : Calls Tryz.prog 75 #[.pointer (some ⟨b, 0, none⟩)] w (ScN w b o) := by
  have c0 := h.c0
  have H := Lib.hid h
  clear h
  go_enter Tryz.func75, Tryz.ntmps75
  go_wp2
  go_ret2
  exact scN_nil (Keep.refl b _) H.out

set_option maxHeartbeats 1000000 in
theorem escaped_one (b : Nat) (c x : UInt8) (r : Nm) (o : Int) (w : World) (h : RdAt w b (c :: r) o) (hx : escB c = some x) : Calls Tryz.prog 75 #[.pointer (some ⟨b, 0, none⟩)] w (ScE w b o (.tuple #[strV [x], .bool true]) r) := by
  have c0 := h.c0
  have f0 := Blk.free h 0
  have H := Lib.hid h
  obtain ⟨i, hi, hix, hie⟩ := esc_idx hx
  have hc := index_any c
  rw [hix] at hc
  have Hc := Lib.hid hc
  obtain ⟨z, hz0, hz, hzs, hzc, hze, hzl, hzl2⟩ := open_cons c r
  rw [← hz] at c0
  have hzn : (0 : Int) < z.size := by omega
  have hzn1 : (1 : Int) ≤ z.size := by omega
  have hcc : ((z[0].toNat : Nat) : Int) = (c.toNat : Int) := by rw [hzc]
  have hii : (i : Int) < 8 := by omega
  clear h hx hix hc hz hzs hzc
  go_enter Tryz.func75, Tryz.ntmps75
  go_wp2_with fail
  refine (Hc.out _).mono ?_
  rintro e w1 ⟨rfl, rfl⟩
  go_wp2
  go_ret2
  exact ⟨rfl, (Keep.refl b _).set 0 _, H.out.put _⟩

set_option maxHeartbeats 1000000 in
theorem escaped_not (b : Nat) (c : UInt8) (r : Nm) (o : Int) (w : World) (h : RdAt w b (c :: r) o) (hx : escB c = none) (hu : c ≠ 117) : Calls Tryz.prog 75 #[.pointer (some ⟨b, 0, none⟩)] w (ScN w b o) := by
  have c0 := h.c0
  have f0 := Blk.free h 0
  have H := Lib.hid h
  have hi := esc_none hx
  have hc := index_any c
  generalize Lib.indexByte escSet c = i at hi hc
  have Hc := Lib.hid hc
  obtain ⟨z, hz0, hz, hzs, hzc, hze, hzl, hzl2⟩ := open_cons c r
  rw [← hz] at c0
  have hzn : (0 : Int) < z.size := by omega
  have hzn1 : (1 : Int) ≤ z.size := by omega
  have hcc : ((z[0].toNat : Nat) : Int) = (c.toNat : Int) := by rw [hzc]
  have h117 : ((c.toNat : Int) != 117) = true := by
    rw [bne_iff_ne]; intro he; exact hu (UInt8.toNat_inj.1 (by have : (117 : UInt8).toNat = 117 := rfl; omega))
  clear h hx hc hz hzs hzc hu
  go_enter Tryz.func75, Tryz.ntmps75
  go_wp2_with fail
  refine (Hc.out _).mono ?_
  rintro e w1 ⟨rfl, rfl⟩
  go_wp2
  go_ret2
  exact scN_nil ((Keep.refl b _).set 0 _) (H.out.put _)

set_option maxHeartbeats 1000000 in
theorem escaped_u0 (b : Nat) (r : Nm) (o : Int) (w : World) (h : RdAt w b (117 :: r) o) (hs : (117 :: r).length ≤ 1048576) (hu : unit4 r = none) : Calls Tryz.prog 75 #[.pointer (some ⟨b, 0, none⟩)] w (ScN w b o) := by
  have c0 := h.c0
  have f0 := Blk.free h 0
  have hs' : r.length ≤ 1048576 := by simp at hs; omega
  have hp := h.put r
  have H := Lib.hid hp
  have HK1 := Lib.hid ((Keep.refl b w).set 0 (.string ⟨r.toArray⟩))
  have hc := index_any 117
  have hcn : Lib.indexByte escSet 117 = -1 := by decide
  rw [hcn] at hc
  have Hc := Lib.hid hc
  obtain ⟨z, hz0, hz, hzs, hzc, hze, hzl, hzl2⟩ := open_cons 117 r
  rw [← hz] at c0
  have hzn : (0 : Int) < z.size := by omega
  have hzn1 : (1 : Int) ≤ z.size := by omega
  have hcc : ((z[0].toNat : Nat) : Int) = 117 := by rw [hzc]; rfl
  clear h hp hcn hc hz hzs hzc
  go_enter Tryz.func75, Tryz.ntmps75
  go_wp2_with fail
  refine (Hc.out _).mono ?_
  rintro e w1 ⟨rfl, rfl⟩
  clear Hc
  go_wp2_with fail
  refine (unit_no b r o _ H.out hs' hu).mono ?_
  rintro e w2 ⟨rfl, hk, hr⟩
  have HK := Lib.hid (HK1.out.trans hk)
  have HR := Lib.hid hr
  clear hk hr
  go_wp2
  go_ret2
  exact scN_ba _ HK.out HR.out

set_option maxHeartbeats 1000000 in
theorem escaped_u1 (b : Nat) (r q : Nm) (n : Nat) (o : Int) (w : World) (h : RdAt w b (117 :: r) o) (hs : (117 :: r).length ≤ 1048576) (hu : unit4 r = some (n, q)) (hn : n < 55296 ∨ 57344 ≤ n) : Calls Tryz.prog 75 #[.pointer (some ⟨b, 0, none⟩)] w (ScE w b o (.tuple #[strV (scalarB n), .bool true]) q) := by
  have hn1 := (unit4_some hu).1
  have hen : Utf8.encode (n : Int) = ⟨(scalarB n).toArray⟩ := encode_scalar (by unfold Scalar; omega)
  have Hen := Lib.hid hen
  clear hen
  have c0 := h.c0
  have f0 := Blk.free h 0
  have hs' : r.length ≤ 1048576 := by simp at hs; omega
  have hp := h.put r
  have H := Lib.hid hp
  have HK1 := Lib.hid ((Keep.refl b w).set 0 (.string ⟨r.toArray⟩))
  have hc := index_any 117
  have hcn : Lib.indexByte escSet 117 = -1 := by decide
  rw [hcn] at hc
  have Hc := Lib.hid hc
  obtain ⟨z, hz0, hz, hzs, hzc, hze, hzl, hzl2⟩ := open_cons 117 r
  rw [← hz] at c0
  have hzn : (0 : Int) < z.size := by omega
  have hzn1 : (1 : Int) ≤ z.size := by omega
  have hcc : ((z[0].toNat : Nat) : Int) = 117 := by rw [hzc]; rfl
  clear h hp hcn hc hz hzs hzc
  go_enter Tryz.func75, Tryz.ntmps75
  go_wp2_with fail
  refine (Hc.out _).mono ?_
  rintro e w1 ⟨rfl, rfl⟩
  clear Hc
  go_wp2_with fail
  refine (unit_yes b r q n o _ H.out hs' hu).mono ?_
  rintro e w2 ⟨rfl, hk, hr⟩
  have HK := Lib.hid (HK1.out.trans hk)
  have HR := Lib.hid hr
  clear hk hr hu
  have HN := Lib.hid hn
  obtain ⟨m, hm⟩ : ∃ m : Int, m = (n : Int) := ⟨_, rfl⟩
  rw [← hm]
  have Hen2 : Hid (Utf8.encode m = ⟨(scalarB n).toArray⟩) := Lib.hid (by rw [hm]; exact Hen.out)
  have hmn : (m < 55296) ∨ (57344 ≤ m) := by omega
  clear hm hn1 hn Hen HN
  rcases hmn with hn | hn
  · go_wp2
    go_ret2
    refine ⟨?_, HK.out, HR.out⟩
    unfold strV
    rw [← Hen2.out]
    rfl
  · have hni2 : 55296 ≤ m := by omega
    go_wp2
    go_ret2
    refine ⟨?_, HK.out, HR.out⟩
    unfold strV
    rw [← Hen2.out]
    rfl

set_option maxHeartbeats 1000000 in
theorem escaped_u2 (b : Nat) (r q : Nm) (n : Nat) (o : Int) (w : World) (h : RdAt w b (117 :: r) o) (hs : (117 :: r).length ≤ 1048576) (hu : unit4 r = some (n, q)) (hn : 55296 ≤ n) (hn2 : n < 57344) (ht : takes [92, 117] q = none) : Calls Tryz.prog 75 #[.pointer (some ⟨b, 0, none⟩)] w (ScN w b o) := by
  have c0 := h.c0
  have f0 := Blk.free h 0
  have hs' : r.length ≤ 1048576 := by simp at hs; omega
  have hp := h.put r
  have H := Lib.hid hp
  have HK1 := Lib.hid ((Keep.refl b w).set 0 (.string ⟨r.toArray⟩))
  have hc := index_any 117
  have hcn : Lib.indexByte escSet 117 = -1 := by decide
  rw [hcn] at hc
  have Hc := Lib.hid hc
  obtain ⟨z, hz0, hz, hzs, hzc, hze, hzl, hzl2⟩ := open_cons 117 r
  rw [← hz] at c0
  have hzn : (0 : Int) < z.size := by omega
  have hzn1 : (1 : Int) ≤ z.size := by omega
  have hcc : ((z[0].toNat : Nat) : Int) = 117 := by rw [hzc]; rfl
  clear h hp hcn hc hz hzs hzc
  go_enter Tryz.func75, Tryz.ntmps75
  go_wp2_with fail
  refine (Hc.out _).mono ?_
  rintro e w1 ⟨rfl, rfl⟩
  clear Hc
  go_wp2_with fail
  refine (unit_yes b r q n o _ H.out hs' hu).mono ?_
  rintro e w2 ⟨rfl, hk, hr⟩
  have HK := Lib.hid (HK1.out.trans hk)
  have HR := Lib.hid hr
  have HT := Lib.hid ht
  obtain ⟨m, hm⟩ : ∃ m : Int, m = (n : Int) := ⟨_, rfl⟩
  rw [← hm]
  have hni : 55296 ≤ m := by omega
  have hni2 : m < 57344 := by omega
  clear hk hr hu ht hm hn hn2
  go_wp2_with fail
  refine (takes_no b q [92, 117] o _ HR.out HT.out).mono ?_
  rintro e w3 ⟨rfl, hk, hr⟩
  have HK3 := Lib.hid (HK.out.trans hk)
  have HR3 := Lib.hid hr
  clear hk hr
  go_wp2
  go_ret2
  exact scN_ba _ HK3.out HR3.out

set_option maxHeartbeats 1000000 in
theorem escaped_u3 (b : Nat) (r q q2 : Nm) (n : Nat) (o : Int) (w : World) (h : RdAt w b (117 :: r) o) (hs : (117 :: r).length ≤ 1048576) (hu : unit4 r = some (n, q)) (hn : 55296 ≤ n) (hn2 : n < 57344) (ht : takes [92, 117] q = some q2) (hu2 : unit4 q2 = none) : Calls Tryz.prog 75 #[.pointer (some ⟨b, 0, none⟩)] w (ScN w b o) := by
  have hq2 : q2.length ≤ 1048576 := by
    have := unit4_len hu
    have := takes_len ht
    simp at hs; omega
  have c0 := h.c0
  have f0 := Blk.free h 0
  have hs' : r.length ≤ 1048576 := by simp at hs; omega
  have hp := h.put r
  have H := Lib.hid hp
  have HK1 := Lib.hid ((Keep.refl b w).set 0 (.string ⟨r.toArray⟩))
  have hc := index_any 117
  have hcn : Lib.indexByte escSet 117 = -1 := by decide
  rw [hcn] at hc
  have Hc := Lib.hid hc
  obtain ⟨z, hz0, hz, hzs, hzc, hze, hzl, hzl2⟩ := open_cons 117 r
  rw [← hz] at c0
  have hzn : (0 : Int) < z.size := by omega
  have hzn1 : (1 : Int) ≤ z.size := by omega
  have hcc : ((z[0].toNat : Nat) : Int) = 117 := by rw [hzc]; rfl
  clear h hp hcn hc hz hzs hzc
  go_enter Tryz.func75, Tryz.ntmps75
  go_wp2_with fail
  refine (Hc.out _).mono ?_
  rintro e w1 ⟨rfl, rfl⟩
  clear Hc
  go_wp2_with fail
  refine (unit_yes b r q n o _ H.out hs' hu).mono ?_
  rintro e w2 ⟨rfl, hk, hr⟩
  have HK := Lib.hid (HK1.out.trans hk)
  have HR := Lib.hid hr
  have HT := Lib.hid ht
  have HU2 := Lib.hid hu2
  obtain ⟨m, hm⟩ : ∃ m : Int, m = (n : Int) := ⟨_, rfl⟩
  rw [← hm]
  have hni : 55296 ≤ m := by omega
  have hni2 : m < 57344 := by omega
  clear hk hr hu ht hu2 hm hn hn2
  go_wp2_with fail
  refine (takes_yes b q [92, 117] q2 o _ HR.out HT.out).mono ?_
  rintro e w3 ⟨rfl, hk, hr⟩
  have HK3 := Lib.hid (HK.out.trans hk)
  have HR3 := Lib.hid hr
  clear hk hr
  go_wp2_with fail
  refine (unit_no b q2 o _ HR3.out hq2 HU2.out).mono ?_
  rintro e w4 ⟨rfl, hk, hr⟩
  have HK4 := Lib.hid (HK3.out.trans hk)
  have HR4 := Lib.hid hr
  clear hk hr
  go_wp2
  go_ret2
  exact scN_ba _ HK4.out HR4.out

set_option maxHeartbeats 2000000 in
theorem escaped_u4 (b : Nat) (r q q2 q3 : Nm) (n n2 : Nat) (o : Int) (w : World) (h : RdAt w b (117 :: r) o) (hs : (117 :: r).length ≤ 1048576) (hu : unit4 r = some (n, q)) (hn : 55296 ≤ n) (hn2 : n < 57344) (ht : takes [92, 117] q = some q2) (hu2 : unit4 q2 = some (n2, q3)) (hbad : ¬ (n < 56320 ∧ 56320 ≤ n2 ∧ n2 < 57344)) : Calls Tryz.prog 75 #[.pointer (some ⟨b, 0, none⟩)] w (ScN w b o) := by
  have hq2 : q2.length ≤ 1048576 := by
    have := unit4_len hu
    have := takes_len ht
    simp at hs; omega
  have hn65 := (unit4_some hu2).1
  have HB := Lib.hid hbad
  clear hbad
  have c0 := h.c0
  have f0 := Blk.free h 0
  have hs' : r.length ≤ 1048576 := by simp at hs; omega
  have hp := h.put r
  have H := Lib.hid hp
  have HK1 := Lib.hid ((Keep.refl b w).set 0 (.string ⟨r.toArray⟩))
  have hc := index_any 117
  have hcn : Lib.indexByte escSet 117 = -1 := by decide
  rw [hcn] at hc
  have Hc := Lib.hid hc
  obtain ⟨z, hz0, hz, hzs, hzc, hze, hzl, hzl2⟩ := open_cons 117 r
  rw [← hz] at c0
  have hzn : (0 : Int) < z.size := by omega
  have hzn1 : (1 : Int) ≤ z.size := by omega
  have hcc : ((z[0].toNat : Nat) : Int) = 117 := by rw [hzc]; rfl
  clear h hp hcn hc hz hzs hzc
  go_enter Tryz.func75, Tryz.ntmps75
  go_wp2_with fail
  refine (Hc.out _).mono ?_
  rintro e w1 ⟨rfl, rfl⟩
  clear Hc
  go_wp2_with fail
  refine (unit_yes b r q n o _ H.out hs' hu).mono ?_
  rintro e w2 ⟨rfl, hk, hr⟩
  have HK := Lib.hid (HK1.out.trans hk)
  have HR := Lib.hid hr
  have HT := Lib.hid ht
  have HU2 := Lib.hid hu2
  obtain ⟨m, hm⟩ : ∃ m : Int, m = (n : Int) := ⟨_, rfl⟩
  rw [← hm]
  have hni : 55296 ≤ m := by omega
  have hni2 : m < 57344 := by omega
  have Hm := Lib.hid hm
  clear hk hr hu ht hu2 hm hn hn2
  go_wp2_with fail
  refine (takes_yes b q [92, 117] q2 o _ HR.out HT.out).mono ?_
  rintro e w3 ⟨rfl, hk, hr⟩
  have HK3 := Lib.hid (HK.out.trans hk)
  have HR3 := Lib.hid hr
  clear hk hr
  go_wp2_with fail
  refine (unit_yes b q2 q3 n2 o _ HR3.out hq2 HU2.out).mono ?_
  rintro e w4 ⟨rfl, hk, hr⟩
  have HK4 := Lib.hid (HK3.out.trans hk)
  have HR4 := Lib.hid hr
  obtain ⟨m2, hm2⟩ : ∃ m2 : Int, m2 = (n2 : Int) := ⟨_, rfl⟩
  rw [← hm2]
  have hm0 : 0 ≤ m2 := by omega
  have hm1 : m2 ≤ 65535 := by omega
  have hcas : 56320 ≤ m ∨ (m < 56320 ∧ m2 < 56320) ∨ (m < 56320 ∧ 57344 ≤ m2) := by
    have h1 := HB.out
    have h2 := Hm.out
    rw [hm2, h2]
    omega
  clear hk hr hm2 hn65
  rcases hcas with hcas | ⟨hc1, hc2⟩ | ⟨hc1, hc2⟩
  · go_wp2
    all_goals go_ret2
    all_goals exact scN_ba _ HK4.out HR4.out
  · go_wp2
    all_goals go_ret2
    all_goals exact scN_ba _ HK4.out HR4.out
  · have hc3 : 56320 ≤ m2 := by omega
    have hc4 : decide (m2 < 57344) = false := decide_eq_false (by omega)
    go_wp2
    all_goals go_ret2
    all_goals exact scN_ba _ HK4.out HR4.out

/-- two units that are a pair -/
def PairOk (n n2 : Nat) : Prop := 55296 ≤ n ∧ n < 56320 ∧ 56320 ≤ n2 ∧ n2 < 57344
set_option maxHeartbeats 2000000 in
theorem escaped_u5 (b : Nat) (r q q2 q3 : Nm) (n n2 : Nat) (o : Int) (w : World) (h : RdAt w b (117 :: r) o) (hs : (117 :: r).length ≤ 1048576) (hu : unit4 r = some (n, q)) (hn : 55296 ≤ n) (hn3 : n < 56320) (ht : takes [92, 117] q = some q2) (hu2 : unit4 q2 = some (n2, q3)) (hg1 : 56320 ≤ n2) (hg2 : n2 < 57344) : Calls Tryz.prog 75 #[.pointer (some ⟨b, 0, none⟩)] w (ScE w b o (.tuple #[strV (scalarB (pairN n n2)), .bool true]) q3) := by
  have hn2 : n < 57344 := by omega
  have hq2 : q2.length ≤ 1048576 := by
    have := unit4_len hu
    have := takes_len ht
    simp at hs; omega
  have hok : PairOk n n2 := ⟨hn, hn3, hg1, hg2⟩
  clear hg1 hg2 hn3
  have c0 := h.c0
  have f0 := Blk.free h 0
  have hs' : r.length ≤ 1048576 := by simp at hs; omega
  have hp := h.put r
  have H := Lib.hid hp
  have HK1 := Lib.hid ((Keep.refl b w).set 0 (.string ⟨r.toArray⟩))
  have hc := index_any 117
  have hcn : Lib.indexByte escSet 117 = -1 := by decide
  rw [hcn] at hc
  have Hc := Lib.hid hc
  obtain ⟨z, hz0, hz, hzs, hzc, hze, hzl, hzl2⟩ := open_cons 117 r
  rw [← hz] at c0
  have hzn : (0 : Int) < z.size := by omega
  have hzn1 : (1 : Int) ≤ z.size := by omega
  have hcc : ((z[0].toNat : Nat) : Int) = 117 := by rw [hzc]; rfl
  clear h hp hcn hc hz hzs hzc
  go_enter Tryz.func75, Tryz.ntmps75
  go_wp2_with fail
  refine (Hc.out _).mono ?_
  rintro e w1 ⟨rfl, rfl⟩
  clear Hc
  go_wp2_with fail
  refine (unit_yes b r q n o _ H.out hs' hu).mono ?_
  rintro e w2 ⟨rfl, hk, hr⟩
  have HK := Lib.hid (HK1.out.trans hk)
  have HR := Lib.hid hr
  have HT := Lib.hid ht
  have HU2 := Lib.hid hu2
  obtain ⟨m, hm⟩ : ∃ m : Int, m = (n : Int) := ⟨_, rfl⟩
  rw [← hm]
  have hni : 55296 ≤ m := by omega
  have hni2 : m < 57344 := by omega
  have Hm := Lib.hid hm
  clear hk hr hu ht hu2 hm hn hn2
  go_wp2_with fail
  refine (takes_yes b q [92, 117] q2 o _ HR.out HT.out).mono ?_
  rintro e w3 ⟨rfl, hk, hr⟩
  have HK3 := Lib.hid (HK.out.trans hk)
  have HR3 := Lib.hid hr
  clear hk hr
  go_wp2_with fail
  refine (unit_yes b q2 q3 n2 o _ HR3.out hq2 HU2.out).mono ?_
  rintro e w4 ⟨rfl, hk, hr⟩
  have HK4 := Lib.hid (HK3.out.trans hk)
  have HR4 := Lib.hid hr
  obtain ⟨m2, hm2⟩ : ∃ m2 : Int, m2 = (n2 : Int) := ⟨_, rfl⟩
  rw [← hm2]
  obtain ⟨hn, hn3, hg1, hg2⟩ := hok
  have hm0 : 56320 ≤ m2 := by omega
  have hm1 : m2 < 57344 := by omega
  have hni3 : m < 56320 := by have := Hm.out; omega
  have HP : Hid (strV (scalarB (pairN n n2)) = .string (Utf8.encode ((m - 55296) * 1024 + m2 - 56320 + 65536))) := Lib.hid (by
    have e : (m - 55296) * 1024 + m2 - 56320 + 65536 = (pairN n n2 : Nat) := by
      rw [Hm.out, hm2]; unfold pairN; omega
    rw [e, encode_scalar (by unfold Scalar pairN; omega)]; rfl)
  have hd : decide (m2 < 57344) = true := decide_eq_true hm1
  clear hk hr hm2 hg1 hg2 hn hn3
  go_wp2
  go_ret2
  refine ⟨?_, HK4.out, HR4.out⟩
  rw [HP.out]
  rfl

theorem escaped_no (b : Nat) (s : Nm) (o : Int) (w : World) (h : RdAt w b s o) (hs : s.length ≤ 1048576) (he : escaped s = none) : Calls Tryz.prog 75 #[.pointer (some ⟨b, 0, none⟩)] w (ScN w b o) := by
  cases s with
  | nil => exact escaped_nil b o w h
  | cons c r =>
    simp only [escaped] at he
    cases hc : escB c with
    | some x => rw [hc] at he; cases he
    | none =>
      rw [hc] at he
      simp only at he
      by_cases hu : c ≠ 117
      · exact escaped_not b c r o w h hc hu
      · rw [if_neg hu] at he
        obtain rfl : c = 117 := by simpa using hu
        cases h1 : unit4 r with
        | none => exact escaped_u0 b r o w h hs h1
        | some p =>
          obtain ⟨n, q⟩ := p
          rw [h1] at he
          simp only at he
          by_cases hn : n < 55296 ∨ 57344 ≤ n
          · rw [if_pos hn] at he; cases he
          · rw [if_neg hn] at he
            cases h2 : takes [92, 117] q with
            | none => exact escaped_u2 b r q n o w h hs h1 (by omega) (by omega) h2
            | some q2 =>
              rw [h2] at he
              simp only at he
              cases h3 : unit4 q2 with
              | none => exact escaped_u3 b r q q2 n o w h hs h1 (by omega) (by omega) h2 h3
              | some p3 =>
                obtain ⟨n2, q3⟩ := p3
                rw [h3] at he
                simp only at he
                by_cases hg : n < 56320 ∧ 56320 ≤ n2 ∧ n2 < 57344
                · rw [if_pos hg] at he; cases he
                · exact escaped_u4 b r q q2 q3 n n2 o w h hs h1 (by omega) (by omega) h2 h3 hg
theorem escaped_yes (b : Nat) (s x t : Nm) (o : Int) (w : World) (h : RdAt w b s o) (hs : s.length ≤ 1048576) (he : escaped s = some (x, t)) : Calls Tryz.prog 75 #[.pointer (some ⟨b, 0, none⟩)] w (ScE w b o (.tuple #[strV x, .bool true]) t) := by
  cases s with
  | nil => cases he
  | cons c r =>
    simp only [escaped] at he
    cases hc : escB c with
    | some y =>
      rw [hc] at he
      simp only [Option.some.injEq, Prod.mk.injEq] at he
      obtain ⟨rfl, rfl⟩ := he
      exact escaped_one b c y r o w h hc
    | none =>
      rw [hc] at he
      simp only at he
      by_cases hu : c ≠ 117
      · rw [if_pos hu] at he; cases he
      · rw [if_neg hu] at he
        obtain rfl : c = 117 := by simpa using hu
        cases h1 : unit4 r with
        | none => rw [h1] at he; cases he
        | some p =>
          obtain ⟨n, q⟩ := p
          rw [h1] at he
          simp only at he
          by_cases hn : n < 55296 ∨ 57344 ≤ n
          · rw [if_pos hn] at he
            simp only [Option.some.injEq, Prod.mk.injEq] at he
            obtain ⟨e1, e2⟩ := he
            rw [← e1, ← e2]
            exact escaped_u1 b r q n o w h hs h1 hn
          · rw [if_neg hn] at he
            cases h2 : takes [92, 117] q with
            | none => rw [h2] at he; cases he
            | some q2 =>
              rw [h2] at he
              simp only at he
              cases h3 : unit4 q2 with
              | none => rw [h3] at he; cases he
              | some p3 =>
                obtain ⟨n2, q3⟩ := p3
                rw [h3] at he
                simp only at he
                by_cases hg : n < 56320 ∧ 56320 ≤ n2 ∧ n2 < 57344
                · rw [if_pos hg] at he
                  simp only [Option.some.injEq, Prod.mk.injEq] at he
                  obtain ⟨e1, e2⟩ := he
                  rw [← e1, ← e2]
                  exact escaped_u5 b r q q2 q3 n n2 o w h hs h1 (by omega) hg.1 h2 h3 hg.2.1 hg.2.2
                · rw [if_neg hg] at he; cases he
end Go.Proofs.YtahiopjplfnlmaaGreatDoor
