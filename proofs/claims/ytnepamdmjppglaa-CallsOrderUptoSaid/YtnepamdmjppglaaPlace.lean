/- Where a name's group stands: walked. -/
import Derived.Test.YtnepamdmjppglaaPlaceP
import Derived.Test.YtnepamdmjppglaaSame
namespace Go.Proofs.Ytnepamdmjppglaa
open Go Go.RowKit

set_option maxHeartbeats 800000 in
theorem place_any (a : Option Addr) (c : Nat) (gs : List RowD) (x : Nm) (w : World) (ha : Row w 1 a gs.length (gs.map RowD.val)) (hr : ∀ r ∈ gs, Row w 1 r.a r.l.length (r.l.map strV)) (hl : gs.length ≤ 1048577) (hlr : ∀ r ∈ gs, r.l.length ≤ 1048577) :
    Calls Try.prog 21 #[.slice a gs.length c, .string ⟨x.toArray⟩] w fun e w' => e = .returned (.int .i64 (placeOf (gs.map RowD.l) x)) ∧ w = w' := by
  have HA := Lib.hid ha
  have HR := Lib.hid hr
  have HLR := Lib.hid hlr
  clear ha hr hlr
  go_enter Try.func21, Try.ntmps21
  go_wp2_with fail
  go_loop [5] (fun i => ∃ k : Nat, k ≤ gs.length ∧ i = .int .i64 k ∧ Hid (∀ (j : Nat) r, j < k → gs[j]? = some r → x ∉ r.l)) (fun i => gs.length - (intOf i).toNat)
  case atStart => exact ⟨0, Nat.zero_le _, rfl, Lib.hid fun j r h => by omega⟩
  case round =>
    obtain ⟨k, hk, rfl, hq⟩ := hrel
    by_cases hlt : k < gs.length
    · obtain ⟨r, hg⟩ := get_some hlt
      obtain ⟨b, off, rfl, v1⟩ := HA.out.elem1 hg
      have hrm := List.mem_of_getElem? hg
      have hh := has_any r.a r.c r.l x w (HR.out r hrm) (by have := HLR.out r hrm; omega)
      have Hh := Lib.hid hh
      have Hg := Lib.hid hg
      have u1 : w.cell? ⟨b, off + k, none⟩ = some (.slice r.a r.l.length r.c) := v1
      clear hg v1 hh hrm
      go_wp2_with fail
      refine Hh.out.mono ?_
      clear Hh
      rintro e w8 ⟨rfl, rfl⟩
      by_cases hx : x ∈ r.l
      · have hp : placeOf (gs.map RowD.l) x = (k : Int) := placeOf_at (a := r.l) (by rw [List.getElem?_map, Hg.out]; rfl) hx fun j b hj hb => by
          rw [List.getElem?_map] at hb
          obtain ⟨r2, h1, rfl⟩ := Option.map_eq_some_iff.1 hb
          exact hq.out j r2 hj h1
        have Hp := Lib.hid hp
        clear hp
        rw [decide_eq_true hx]
        go_wp2
        go_ret
        rw [Hp.out]
        exact ⟨rfl, rfl⟩
      · rw [decide_eq_false hx]
        have hq2 : Hid (∀ (j : Nat) r, j < k + 1 → gs[j]? = some r → x ∉ r.l) := Lib.hid fun j r2 hj h2 => by
          rcases Nat.lt_succ_iff_lt_or_eq.1 hj with h | rfl
          · exact hq.out j r2 h h2
          · have := Hg.out; rw [this] at h2; cases h2; exact hx
        go_wp2
        go_round
        case rel => exact ⟨k + 1, by omega, by go_num, hq2⟩
        case measure => simp [intOf]; omega
    · obtain rfl : k = gs.length := by omega
      have hp : placeOf (gs.map RowD.l) x = -1 := placeOf_none fun b hb => by
        obtain ⟨r2, h1, rfl⟩ := List.mem_map.1 hb
        obtain ⟨j, hj⟩ := List.getElem?_of_mem h1
        exact hq.out j r2 (List.getElem?_eq_some_iff.1 hj).1 hj
      have Hp := Lib.hid hp
      clear hp
      go_wp2
      go_ret
      rw [Hp.out]
      exact ⟨rfl, rfl⟩
end Go.Proofs.Ytnepamdmjppglaa
