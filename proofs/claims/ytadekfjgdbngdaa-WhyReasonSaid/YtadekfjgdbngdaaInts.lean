/- Ints: are two lists one; walked. -/
import Derived.Test.YtadekfjgdbngdaaEscs
namespace Go.Proofs.Ytadekfjgdbngdaa
open Go Go.RowKit

theorem below_drew {B : Nat} {a w : World} (h : Below B a w) (n : Nat) : Below B a (w.drewN n) := ⟨h.os, h.tape, h.output, h.size, h.block⟩

set_option maxRecDepth 20000 in
set_option maxHeartbeats 400000 in
theorem ints_any (a b : Option Addr) (ca cb : Nat) (la lb : List Int) (w : World) (ha : Row w 1 a la.length (la.map (Value.int .i64))) (hb : Row w 1 b lb.length (lb.map (Value.int .i64))) (hl : la.length ≤ 1099511627776) :
    Calls Try.prog 10 #[.slice a la.length ca, .slice b lb.length cb] w (Ret w (IsB (la = lb))) := by
  have HA := Lib.hid ha
  have HB := Lib.hid hb
  clear ha hb
  go_enter Try.func10, Try.ntmps10
  by_cases hn : la.length = lb.length
  · have hn2 : ((la.length : Int) != lb.length) = false := by simp [hn]
    go_wp2
    go_loopw [5] (fun i wq => ∃ k : Nat, k ≤ la.length ∧ i = .int .i64 k ∧ Hid (Below w.heap.size w wq ∧ ∀ j, j < k → la[j]? = lb[j]?)) (fun i _ => la.length - (intOf i).toNat)
    case atStart => exact ⟨0, Nat.zero_le _, rfl, Below.refl _ _, fun j h => by omega⟩
    case round =>
      obtain ⟨k, hk, rfl, hq⟩ := hrel
      by_cases hlt : k < la.length
      · obtain ⟨x, hx⟩ := get_some hlt
        obtain ⟨y, hy⟩ := get_some (l := lb) (i := k) (by omega)
        obtain ⟨ab, ao, rfl, v1⟩ := (HA.out.ext hq.out.1).elem1 hx
        obtain ⟨bb, bo, rfl, v2⟩ := (HB.out.ext hq.out.1).elem1 hy
        have Hx := Lib.hid hx
        have Hy := Lib.hid hy
        have hkl : (k : Int) < la.length := by omega
        have hkl2 : (k : Int) < lb.length := by omega
        clear hx hy
        by_cases hxy : x = y
        · have hne : (x != y) = false := by simp [hxy]
          go_wp2_with fail
          go_quiet (fail)
          go_wp2
          go_roundw
          case rel =>
            refine ⟨k + 1, by omega, by go_num, below_drew hq.out.1 _, fun j hj => ?_⟩
            rcases Nat.lt_or_ge j k with h | h
            · exact hq.out.2 j h
            · obtain rfl : j = k := by omega
              rw [Hx.out, Hy.out, hxy]
          case measure => simp [intOf]; omega
        · have hne : (x != y) = true := by simp [hxy]
          go_wp2_with fail
          go_quiet (fail)
          go_wp2
          go_ret
          exact ⟨_, rfl, below_drew hq.out.1 _, isB_false fun h => hxy (by have := Hx.out; rw [h, Hy.out] at this; simpa using this.symm)⟩
      · obtain rfl : k = la.length := by omega
        go_wp2
        go_ret
        exact ⟨_, rfl, hq.out.1, isB_true (List.ext_getElem? fun i => by rcases Nat.lt_or_ge i la.length with h | h; exact hq.out.2 i h; rw [List.getElem?_eq_none h, List.getElem?_eq_none (by omega)])⟩
  · have hn2 : ((la.length : Int) != lb.length) = true := by simp; omega
    go_wp2
    go_ret
    exact ⟨_, rfl, Below.refl _ _, isB_false fun h => hn (by rw [h])⟩
end Go.Proofs.Ytadekfjgdbngdaa
