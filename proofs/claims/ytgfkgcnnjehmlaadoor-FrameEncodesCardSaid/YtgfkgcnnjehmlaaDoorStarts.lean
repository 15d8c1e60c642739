/- starts: does one text begin with another, as far as both go; walked. -/
import Derived.Test.YtgfkgcnnjehmlaaDoorRows
import Derived.Test.YtgfkgcnnjehmlaaDoorBase
import Derived.Test.YtgfkgcnnjehmlaaDoorFrm
namespace Go.Proofs.YtgfkgcnnjehmlaaDoor
open Go Go.RowKit

/-- what a call comes to: a value, in a world that extends the one it began in -/
def Ret (w : World) (R : Value → World → Prop) (e : Ending) (w' : World) : Prop := ∃ v, e = .returned v ∧ Below w.heap.size w w' ∧ R v w'
/-- a bool that says whether p -/
def IsB (p : Prop) (v : Value) (_ : World) : Prop := ∃ b, v = .bool b ∧ (b = true ↔ p)
theorem isB_true {p : Prop} {w : World} (h : p) : IsB p (.bool true) w := ⟨true, rfl, by simp [h]⟩
theorem isB_false {p : Prop} {w : World} (h : ¬ p) : IsB p (.bool false) w := ⟨false, rfl, by simp [h]⟩
theorem below_a1 (w : World) (o : Obj) : Below w.heap.size w (w.alloc o) := (Below.refl _ _).alloc (Nat.le_refl _) _
theorem below_drew {B : Nat} {a w : World} (h : Below B a w) (n : Nat) : Below B a (w.drewN n) := ⟨h.os, h.tape, h.output, h.size, h.block⟩

set_option maxHeartbeats 400000 in
theorem starts_any (s v : ByteArray) (w : World) (hs : s.size ≤ maxLen) (hv : v.size ≤ 100) :
    Calls Tryd.prog 28 #[.string s, .string v] w (Ret w (IsB (s.data.toList.take v.size = v.data.toList.take s.size))) := by
  unfold maxLen at hs
  go_enter Tryd.func28, Tryd.ntmps28
  rcases Nat.lt_or_ge v.size s.size with hlt0 | hge0
  all_goals
    go_wp2_with fail
    go_loopw [11] (fun i wq => ∃ k : Nat, k ≤ s.size ∧ k ≤ v.size ∧ i = .int .i64 k ∧ Hid (Below w.heap.size w wq ∧ s.data.toList.take k = v.data.toList.take k)) (fun i _ => v.size - (intOf i).toNat)
    case atStart => exact ⟨0, Nat.zero_le _, Nat.zero_le _, rfl, Below.refl _ _, rfl⟩
    case round =>
      obtain ⟨k, hk1, hk2, rfl, hq⟩ := hrel
      rcases Nat.lt_or_ge k (min s.size v.size) with hlt | hge
      · have h1 : k < s.size := by omega
        have h2 : k < v.size := by omega
        have g1 : s.data.toList[k]? = some s[k] := by rw [List.getElem?_eq_getElem (by simpa using h1)]; rfl
        have g2 : v.data.toList[k]? = some v[k] := by rw [List.getElem?_eq_getElem (by simpa using h2)]; rfl
        have G1 := Lib.hid g1
        have G2 := Lib.hid g2
        clear g1 g2
        by_cases hxy : s[k] = v[k]
        · have hne : ((s[k].toNat : Int) != (v[k].toNat : Int)) = false := by rw [hxy]; simp
          have Hxy := Lib.hid hxy
          clear hxy
          go_wp2_with fail
          go_quiet (fail)
          go_wp2
          go_roundw
          case rel => exact ⟨k + 1, by omega, by omega, by go_num, below_drew hq.out.1 _, by rw [List.take_add_one, List.take_add_one, hq.out.2, G1.out, G2.out, Hxy.out]⟩
          case measure => simp [intOf]; omega
        · have hne : ((s[k].toNat : Int) != (v[k].toNat : Int)) = true := by
            rw [bne_iff_ne]; intro he; exact hxy (UInt8.toNat_inj.1 (Int.ofNat.inj he))
          have Hxy := Lib.hid hxy
          clear hxy
          go_wp2_with fail
          go_quiet (fail)
          go_wp2
          go_ret
          refine ⟨_, rfl, below_drew hq.out.1 _, isB_false fun h => Hxy.out ?_⟩
          have := congrArg (fun l => l[k]?) h
          simp only [List.getElem?_take, if_pos h1, if_pos h2, G1.out, G2.out] at this
          exact Option.some.inj this
      · have hfin : s.data.toList.take v.size = v.data.toList.take s.size := by
          have ls : s.data.toList.length = s.size := rfl
          have lv : v.data.toList.length = v.size := rfl
          have h2 := hq.out.2
          rcases Nat.lt_or_ge v.size s.size with hh | hh
          · rw [show k = v.size by omega] at h2
            rw [h2, List.take_of_length_le (by omega), List.take_of_length_le (by omega)]
          · rw [show k = s.size by omega] at h2
            rw [← h2, List.take_of_length_le (by omega), List.take_of_length_le (by omega)]
        have Hfin := Lib.hid hfin
        clear hfin
        go_wp2
        go_ret
        exact ⟨_, rfl, hq.out.1, isB_true Hfin.out⟩
end Go.Proofs.YtgfkgcnnjehmlaaDoor
