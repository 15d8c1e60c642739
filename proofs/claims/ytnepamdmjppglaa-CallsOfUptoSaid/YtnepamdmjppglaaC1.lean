/- Small words of this claim; Has, walked. -/
import Derived.Test.YtnepamdmjppglaaRows
import Derived.Test.YtnepamdmjppglaaBase
import Derived.Test.YtnepamdmjppglaaOrd
namespace Go.Proofs.Ytnepamdmjppglaa
open Go Go.RowKit

/-- what a call comes to: a value, in a world that extends the one it began in -/
def Ret (w : World) (R : Value → World → Prop) (e : Ending) (w' : World) : Prop := ∃ v, e = .returned v ∧ Below w.heap.size w w' ∧ R v w'
/-- a bool that says whether p -/
def IsB (p : Prop) (v : Value) (_ : World) : Prop := ∃ b, v = .bool b ∧ (b = true ↔ p)
theorem isB_true {p : Prop} {w : World} (h : p) : IsB p (.bool true) w := ⟨true, rfl, by simp [h]⟩
theorem isB_false {p : Prop} {w : World} (h : ¬ p) : IsB p (.bool false) w := ⟨false, rfl, by simp [h]⟩
theorem below_a1 (w : World) (o : Obj) : Below w.heap.size w (w.alloc o) := (Below.refl _ _).alloc (Nat.le_refl _) _
theorem below_drew {B : Nat} {a w : World} (h : Below B a w) (n : Nat) : Below B a (w.drewN n) := ⟨h.os, h.tape, h.output, h.size, h.block⟩

abbrev Nm := List UInt8
def strV (l : Nm) : Value := .string ⟨l.toArray⟩

theorem str_at {w : World} {a : Option Addr} {l : List Nm} (h : Row w 1 a l.length (l.map strV)) {i : Nat} {x : Nm} (hx : l[i]? = some x) : ∃ b off, a = some ⟨b, off, none⟩ ∧ w.cell? ⟨b, off + i, none⟩ = some (.string ⟨x.toArray⟩) :=
  Row.elem1 (f := strV) h hx

set_option maxHeartbeats 400000 in
theorem has_any (a : Option Addr) (c : Nat) (l : List Nm) (x : Nm) (w : World) (hr : Row w 1 a l.length (l.map strV)) (hl : l.length ≤ 1099511627776) :
    Calls Try.prog 23 #[.slice a l.length c, .string ⟨x.toArray⟩] w fun e w' => e = .returned (.bool (decide (x ∈ l))) ∧ w = w' := by
  have HR := Lib.hid hr
  clear hr
  go_enter Try.func23, Try.ntmps23
  go_wp2
  go_loop [5] (fun i => ∃ k : Nat, k ≤ l.length ∧ i = .int .i64 k ∧ Hid (∀ (j : Nat) y, j < k → l[j]? = some y → y ≠ x)) (fun i => l.length - (intOf i).toNat)
  case atStart => exact ⟨0, Nat.zero_le _, rfl, fun j y h => by omega⟩
  case round =>
    obtain ⟨k, hk, rfl, hall⟩ := hrel
    by_cases hlt : k < l.length
    · obtain ⟨y, hy⟩ := get_some hlt
      obtain ⟨b, off, rfl, h1⟩ := str_at HR.out hy
      have Hy := Lib.hid hy
      clear hy
      by_cases he : y = x
      · have fe : (y == x) = true := by simpa using he
        have He := Lib.hid he
        clear he
        go_wp2
        go_ret
        refine ⟨?_, rfl⟩
        have : x ∈ l := He.out ▸ List.mem_of_getElem? Hy.out
        simp [this]
      · have fe : (y == x) = false := by simpa using he
        have He := Lib.hid he
        clear he
        go_wp2
        go_round
        case rel =>
          refine ⟨k + 1, by omega, by go_num, fun j z hj hz => ?_⟩
          rcases Nat.lt_or_ge j k with h | h
          · exact hall.out j z h hz
          · obtain rfl : j = k := by omega
            have := Hy.out; rw [hz] at this; cases this; exact He.out
        case measure => simp [intOf]; omega
    · obtain rfl : k = l.length := by omega
      go_wp2
      go_ret
      refine ⟨?_, rfl⟩
      have : ¬ x ∈ l := fun hm => by
        obtain ⟨j, hj, rfl⟩ := List.getElem_of_mem hm
        exact hall.out j _ hj (List.getElem?_eq_getElem hj) rfl
      simp [this]
end Go.Proofs.Ytnepamdmjppglaa
