/- Four figures of base sixteen read by the library: walked. -/
import Derived.Test.YtahiopjplfnlmaaGreatDoorSc1
import Derived.Lib.Walk
import Derived.Lib.ConvBytes
import Derived.Laws.Strings3
import Derived.Laws.Closers25
import Derived.Laws.Closers25b
import Derived.BigCall
import Derived.BigGuard
namespace Go.Proofs.YtahiopjplfnlmaaGreatDoor
open Go Go.RowKit

def hx (acc : Nat) : Nm → Nat
  | [] => acc
  | x :: r => hx (acc * 16 + (hexVal x).getD 0) r
set_option maxRecDepth 100000 in
theorem or_lower : ∀ x : Fin 256, 97 ≤ x.val → x.val ≤ 102 → bits .or .u8 ((x.val : Nat) : Int) 32 = ((x.val : Nat) : Int) := by decide
set_option maxRecDepth 100000 in
theorem or_upper : ∀ x : Fin 256, 65 ≤ x.val → x.val ≤ 70 → bits .or .u8 ((x.val : Nat) : Int) 32 = ((x.val + 32 : Nat) : Int) := by decide
theorem hexVal_cases {c : UInt8} {n : Nat} (h : hexVal c = some n) : (48 ≤ c.toNat ∧ c.toNat ≤ 57 ∧ n = c.toNat - 48) ∨ (97 ≤ c.toNat ∧ c.toNat ≤ 102 ∧ n = c.toNat - 87) ∨ (65 ≤ c.toNat ∧ c.toNat ≤ 70 ∧ n = c.toNat - 55) := by
  unfold hexVal at h
  simp only [UInt8.le_iff_toNat_le, show (48 : UInt8).toNat = 48 from rfl, show (57 : UInt8).toNat = 57 from rfl, show (97 : UInt8).toNat = 97 from rfl, show (102 : UInt8).toNat = 102 from rfl, show (65 : UInt8).toNat = 65 from rfl, show (70 : UInt8).toNat = 70 from rfl] at h
  split at h
  · rename_i h1; injection h with h; exact .inl ⟨h1.1, h1.2, h.symm⟩
  · split at h
    · rename_i h1; injection h with h; exact .inr (.inl ⟨h1.1, h1.2, h.symm⟩)
    · split at h
      · rename_i h1; injection h with h; exact .inr (.inr ⟨h1.1, h1.2, h.symm⟩)
      · cases h

set_option maxHeartbeats 4000000 in
set_option maxRecDepth 100000 in
theorem hexIn_any (bs : Nm) (hl : bs.length = 4) (hx4 : ∀ x ∈ bs, ∃ n, hexVal x = some n) (w : World) :
    Calls Tryz.prog 117 #[.string ⟨bs.toArray⟩, .int .i64 16, .int .i64 16] w (Ret w fun v _ => v = .tuple #[.int .u64 (hx 0 bs), .nilIface]) := by
  obtain ⟨t, ht⟩ : ∃ t : ByteArray, t = ⟨bs.toArray⟩ := ⟨_, rfl⟩
  have hsz : t.size = 4 := by rw [ht, size_nm, hl]
  have hdat : t.data.toList = bs := by rw [ht, data_nm]
  rw [← ht]
  clear ht
  have hemp : t.toList.isEmpty = false := by
    rw [← decide_eq_emptyBytes]
    exact decide_eq_false (fun h => by rw [h] at hsz; exact absurd hsz (by decide))
  have hcv := Lib.run_convert_string_bytes (P := Tryz.prog) w 9 72 5 t (u := .string) Tryz.underlying9 Tryz.underlying72 Tryz.underlying5
  have hB : ∀ j, j < 4 → (Lib.bytesWorld w 5 t).cell? ⟨w.heap.size, j, none⟩ = some (.int .u8 (bs.getD j 0).toNat) := fun j hj => by
    have := Lib.bytesWorld_cell w 5 t j (by omega)
    rw [hdat] at this; exact this
  have hbw : Below w.heap.size w (Lib.bytesWorld w 5 t) := Lib.bytesWorld_below _ _ _
  obtain ⟨W1, hW1⟩ : ∃ W1, W1 = Lib.bytesWorld w 5 t := ⟨_, rfl⟩
  rw [← hW1] at hcv hB hbw
  have Hbw := Lib.hid hbw
  have HX := Lib.hid hx4
  have HB := Lib.hid hB
  have Hl := Lib.hid hl
  have Hsz := Lib.hid hsz
  have hmax : t.size ≤ 9223372036854775806 := by omega
  clear hW1 hbw hx4 hdat hB hl hsz
  have hmv : IntKind.u64.wrap (IntKind.u64.wrap 65536 - 1) = 65535 := by
    rw [IntKind.wrap_u64, IntKind.wrap_u64]
    decide
  go_enter Tryz.func117, Tryz.ntmps117
  go_wp2
  go_loop [12, 13, 101] (fun vu vn vi => ∃ (k acc : Nat) (a : Int), vu = .bool false ∧ vn = .int .u64 a ∧ vi = .int .i64 k ∧ k ≤ t.size ∧ Hid ((k = 0 ∧ acc = 0) ∨ (k = 1 ∧ acc ≤ 15) ∨ (k = 2 ∧ acc ≤ 255) ∨ (k = 3 ∧ acc ≤ 4095) ∨ (k = 4 ∧ acc ≤ 65535)) ∧ Hid (a = (acc : Int) ∧ acc ≤ 65535) ∧ Hid (hx 0 bs = hx acc (bs.drop k)))
    (fun _ _ vi => t.size - (intOf vi).toNat)
  case atStart => exact ⟨0, 0, 0, rfl, rfl, rfl, by omega, Lib.hid (by omega), Lib.hid (by omega), Lib.hid rfl⟩
  case round =>
    obtain ⟨k, acc, a, rfl, rfl, rfl, hk, Hacc, Ha, hh⟩ := hrel
    obtain ⟨ha, hac⟩ := Ha.out
    have a0 : 0 ≤ a := by omega
    have a1 : a ≤ 65535 := by omega
    by_cases hkn : k < t.size
    · have hk4 : k < 4 := by rw [← Hsz.out]; exact hkn
      have hc := HB.out k hk4
      have hacc := Hacc.out
      have hlen := Hl.out
      have hdrop : bs.drop k = bs[k]'(by omega) :: bs.drop (k + 1) := List.drop_eq_getElem_cons (by omega)
      have hget : bs.getD k 0 = bs[k]'(by omega) := by simp [List.getD, List.getElem?_eq_getElem (show k < bs.length by omega)]
      obtain ⟨n, hn⟩ := HX.out (bs[k]'(by omega)) (List.getElem_mem _)
      have hnext : hx 0 bs = hx (acc * 16 + n) (bs.drop (k + 1)) := by rw [hh.out, hdrop, hx, hn]; rfl
      rw [hget] at hc
      generalize bs[k]'(by omega) = c at hc hn
      have hc256 : c.toNat < 256 := c.toNat_lt
      have Hn := Lib.hid hnext
      clear hdrop hget hnext hlen hh
      have hcas := hexVal_cases hn
      clear hn
      rcases hcas with ⟨d0, d1, hnv⟩ | ⟨d0, d1, hnv⟩ | ⟨d0, d1, hnv⟩
      · have hn15 : n ≤ 15 := by omega
        have HK : Hid ((k + 1 = 0 ∧ acc * 16 + n = 0) ∨ (k + 1 = 1 ∧ acc * 16 + n ≤ 15) ∨ (k + 1 = 2 ∧ acc * 16 + n ≤ 255) ∨ (k + 1 = 3 ∧ acc * 16 + n ≤ 4095) ∨ (k + 1 = 4 ∧ acc * 16 + n ≤ 65535)) := Lib.hid (by omega)
        have HN : Hid (a * 16 + ((c.toNat : Int) - 48) = ((acc * 16 + n : Nat) : Int) ∧ acc * 16 + n ≤ 65535) := Lib.hid ⟨by omega, by omega⟩
        have h1 : a * 16 + ((c.toNat : Int) - 48) ≤ 65535 := by omega
        clear hnv hacc hk4 hac ha hn15
        go_wp2
        exact ⟨⟨k + 1, acc * 16 + n, _, rfl, rfl, by go_num, by omega, HK, HN, Hn⟩, by simp [intOf]; omega⟩
      · have hn15 : n ≤ 15 := by omega
        have HK : Hid ((k + 1 = 0 ∧ acc * 16 + n = 0) ∨ (k + 1 = 1 ∧ acc * 16 + n ≤ 15) ∨ (k + 1 = 2 ∧ acc * 16 + n ≤ 255) ∨ (k + 1 = 3 ∧ acc * 16 + n ≤ 4095) ∨ (k + 1 = 4 ∧ acc * 16 + n ≤ 65535)) := Lib.hid (by omega)
        have HN : Hid (a * 16 + ((c.toNat : Int) - 97 + 10) = ((acc * 16 + n : Nat) : Int) ∧ acc * 16 + n ≤ 65535) := Lib.hid ⟨by omega, by omega⟩
        have h1 : a * 16 + ((c.toNat : Int) - 97 + 10) ≤ 65535 := by omega
        have hv := or_lower ⟨c.toNat, hc256⟩ d0 d1
        simp only at hv
        clear hnv hacc hk4 hac ha hn15
        go_wp2_with (first | (go_at_call 121; refine (Tryz.internal_strconv_lower _ _).mono ?_; rintro e w' ⟨rfl, rfl⟩))
        exact ⟨⟨k + 1, acc * 16 + n, _, rfl, rfl, by go_num, by omega, HK, HN, Hn⟩, by simp [intOf]; omega⟩
      · have hn15 : n ≤ 15 := by omega
        have HK : Hid ((k + 1 = 0 ∧ acc * 16 + n = 0) ∨ (k + 1 = 1 ∧ acc * 16 + n ≤ 15) ∨ (k + 1 = 2 ∧ acc * 16 + n ≤ 255) ∨ (k + 1 = 3 ∧ acc * 16 + n ≤ 4095) ∨ (k + 1 = 4 ∧ acc * 16 + n ≤ 65535)) := Lib.hid (by omega)
        have HN : Hid (a * 16 + ((c.toNat : Int) + 32 - 97 + 10) = ((acc * 16 + n : Nat) : Int) ∧ acc * 16 + n ≤ 65535) := Lib.hid ⟨by omega, by omega⟩
        have h1 : a * 16 + ((c.toNat : Int) + 32 - 97 + 10) ≤ 65535 := by omega
        have hv := or_upper ⟨c.toNat, hc256⟩ d0 d1
        simp only at hv
        have hv2 : ((c.toNat + 32 : Nat) : Int) = (c.toNat : Int) + 32 := by omega
        rw [hv2] at hv
        clear hv2
        clear hnv hacc hk4 hac ha hn15
        go_wp2_with (first | (go_at_call 121; refine (Tryz.internal_strconv_lower _ _).mono ?_; rintro e w' ⟨rfl, rfl⟩))
        exact ⟨⟨k + 1, acc * 16 + n, _, rfl, rfl, by go_num, by omega, HK, HN, Hn⟩, by simp [intOf]; omega⟩
    · have hk4 : k = 4 := by have := Hsz.out; omega
      have hkk : k = t.size := by omega
      have hfin : hx 0 bs = acc := by rw [hh.out, List.drop_eq_nil_of_le (by rw [Hl.out]; omega)]; rfl
      have Hf := Lib.hid hfin
      clear hfin hh hk4
      subst hkk
      subst ha
      clear a0 a1
      go_wp2
      go_ret2
      exact ⟨_, rfl, Hbw.out, by rw [Hf.out]; rfl⟩

theorem hex_any (bs : Nm) (hl : bs.length = 4) (hx4 : ∀ x ∈ bs, ∃ n, hexVal x = some n) (w : World) :
    Calls Tryz.prog 103 #[.string ⟨bs.toArray⟩, .int .i64 16, .int .i64 16] w (Ret w fun v _ => v = .tuple #[.int .u64 (hx 0 bs), .nilIface]) := by
  have hc := hexIn_any bs hl hx4
  have Hc := Lib.hid hc
  clear hc hl hx4
  go_enter Tryz.func103, Tryz.ntmps103
  go_wp2_with fail
  refine (Hc.out _).mono ?_
  rintro e w1 ⟨_, rfl, hb1, rfl⟩
  go_wp2
  go_ret2
  exact ⟨_, rfl, hb1, rfl⟩
end Go.Proofs.YtahiopjplfnlmaaGreatDoor
