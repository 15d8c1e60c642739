/- What is right: walked. -/
import Derived.Test.YtahiopjplfnlmaaGreatDoorDist
namespace Go.Proofs.YtahiopjplfnlmaaGreatDoor
open Go Go.RowKit

/-- what is asked of the parts that a sort has not -/
def emptyOk (s : Int) (o : Bool) (n : Int) (t : Nm) (m : Nat) (k : Nat) : Bool :=
  (!o || s == 1) && (n == 0 || s == 2) && (t.isEmpty || s == 3) && (if s = 5 then k == m else k == 0 && (s == 4 || m == 0))
theorem nat_beq (k m : Nat) : ((k : Int) == (m : Int)) = (k == m) := by rw [Bool.eq_iff_iff]; simp; omega
theorem nat_beq0 (k : Nat) : ((k : Int) == 0) = (k == 0) := by rw [Bool.eq_iff_iff]; simp
/-- what a call that tells a truth answers -/
def BoE (w : World) (b : Bool) (e : Ending) (w' : World) : Prop := e = .returned (.bool b) ∧ Below w.heap.size w w'
set_option maxHeartbeats 2000000 in
theorem empty_any (d : VD) (w : World) : Calls Tryz.prog 37 #[d.val] w (BoE w (emptyOk d.sort d.on d.n d.text d.list.length d.keys.length)) := by
  obtain ⟨s, o, n, t, a, c, l, ka, kc, ks⟩ := d
  have hbw := below_a1 w (.cells #[.int .i64 s, .bool o, .int .i64 n, .string ⟨t.toArray⟩, .slice a l.length c, .slice ka ks.length kc] 34)
  have Hb := Lib.hid hbw
  simp only [VD.val, VD.cells, VD.sort, VD.on, VD.n, VD.text, VD.list, VD.keys, strV]
  generalize l.length = m at *
  generalize ks.length = k at *
  clear hbw
  cases o <;> cases t with
  | nil =>
    go_enter Tryz.func37, Tryz.ntmps37
    go_wp2
    all_goals (go_ret; refine ⟨?_, below_a1 _ _⟩; simp_all [emptyOk, nat_beq, nat_beq0])
  | cons x t =>
    go_enter Tryz.func37, Tryz.ntmps37
    go_wp2
    all_goals (go_ret; refine ⟨?_, below_a1 _ _⟩; simp_all [emptyOk, nat_beq0])
end Go.Proofs.YtahiopjplfnlmaaGreatDoor
