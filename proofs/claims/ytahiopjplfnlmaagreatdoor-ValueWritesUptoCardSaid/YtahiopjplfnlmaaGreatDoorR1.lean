/- The document's way to tell a right text: walked. -/
import Derived.Test.YtahiopjplfnlmaaGreatDoorRows
import Derived.Test.YtahiopjplfnlmaaGreatDoorVD
import Derived.Test.YtahiopjplfnlmaaGreatDoorUtf2
namespace Go.Proofs.YtahiopjplfnlmaaGreatDoor
open Go Go.RowKit

/-- what a call comes to: a value, in a world that extends the one it began in -/
def Ret (w : World) (R : Value → World → Prop) (e : Ending) (w' : World) : Prop := ∃ v, e = .returned v ∧ Below w.heap.size w w' ∧ R v w'
theorem below_a1 (w : World) (o : Obj) : Below w.heap.size w (w.alloc o) := (Below.refl _ _).alloc (Nat.le_refl _) _
theorem below_drew {B : Nat} {a w : World} (h : Below B a w) (n : Nat) : Below B a (w.drewN n) := ⟨h.os, h.tape, h.output, h.size, h.block⟩
theorem pair_int {a b c d : Int} (h : a = c) (k : b = d) : Ending.returned (.tuple #[.int .i64 a, .int .i64 b]) = .returned (.tuple #[.int .i64 c, .int .i64 d]) := by rw [h, k]

def Tail (s : ByteArray) (k n : Nat) : Nm := (s.data.toList.drop k).take (n - k)
theorem tail_step {s : ByteArray} {k n : Nat} (h : k < s.size) (hn : k < n) : Tail s k n = s[k] :: Tail s (k + 1) n := by
  unfold Tail
  have e : s.data.toList.drop k = s[k] :: s.data.toList.drop (k + 1) := by rw [List.drop_eq_getElem_cons (by simpa using h)]; rfl
  rw [e, show n - k = (n - (k + 1)) + 1 by omega, List.take_succ_cons]
theorem tail_end (s : ByteArray) (n : Nat) : Tail s n n = [] := by unfold Tail; simp
theorem headR_of {s : ByteArray} (h : 0 < s.size) : headR s.data.toList =
    if s[0].toNat < 128 then (s[0].toNat, 1)
    else if (leadR s[0].toNat).1 = 0 ∨ s.size < (leadR s[0].toNat).1 then (0, 0)
    else match contR (leadR s[0].toNat).2.2 (Tail s 1 (leadR s[0].toNat).1) with
      | none => (0, 0)
      | some c => if c < (leadR s[0].toNat).2.1 ∨ 1114111 < c ∨ (55296 ≤ c ∧ c ≤ 57343) then (0, 0) else (c, (leadR s[0].toNat).1) := by
  have e : s.data.toList = s[0] :: s.data.toList.drop 1 := by
    have := List.drop_eq_getElem_cons (l := s.data.toList) (i := 0) (by simpa using h)
    rw [List.drop_zero] at this
    exact this
  have hl : (s.data.toList.drop 1).length + 1 = s.size := by rw [List.length_drop]; have : s.data.toList.length = s.size := rfl; omega
  unfold Tail
  rw [e]
  simp only [headR, List.drop_succ_cons, List.drop_zero]
  rw [hl]; rfl

def ScalR (p : Nat × Nat) (e : Ending) : Prop := e = .returned (.tuple #[.int .i64 p.1, .int .i64 p.2])
theorem scalR_mk {p : Nat × Nat} {a b : Int} (h : a = p.1) (k : b = p.2) : ScalR p (.returned (.tuple #[.int .i64 a, .int .i64 b])) := by unfold ScalR; rw [h, k]
end Go.Proofs.YtahiopjplfnlmaaGreatDoor
