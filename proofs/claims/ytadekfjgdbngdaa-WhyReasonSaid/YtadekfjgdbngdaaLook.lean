/- look of one edge and what is behind it, walked. -/
import Derived.Test.YtadekfjgdbngdaaLong
namespace Go.Proofs.Ytadekfjgdbngdaa
open Go Go.RowKit

theorem row_int {w : World} {a : Option Addr} {l : List Int} (h : Row w 1 a l.length (l.map (Value.int .i64))) {i : Nat} {x : Int} (hx : l[i]? = some x) : ∃ b off, a = some ⟨b, off, none⟩ ∧ w.cell? ⟨b, off + i, none⟩ = some (.int .i64 x) :=
  Row.elem1 (f := Value.int .i64) h hx

set_option maxHeartbeats 400000 in
theorem look_any (xs xd xr d : Int) (aR : Option Addr) (cR : Nat) (rest : List Int) (w : World) (hr : Row w 1 aR rest.length (rest.map (Value.int .i64))) (hn : rest.length ≤ 1048576) (h0 : 0 ≤ xd) (hd : rest[xd.toNat]? = some d) (hlo : -2 ≤ d) (hhi : d ≤ 2305843009213693952) (hx1 : -1 ≤ xr) (hx2 : xr ≤ 1048576) :
    Calls Try.prog 23 #[.agg #[.int .i64 xs, .int .i64 xd, .int .i64 xr], .slice aR rest.length cR] w (Ret w (fun v _ => v = .tuple #[.int .i64 (max d 0 + xr), .bool (d != -2)])) := by
  obtain ⟨dN, rfl⟩ := Int.eq_ofNat_of_zero_le h0
  rw [Int.toNat_natCast] at hd
  have hlt := get_lt hd
  obtain ⟨b, off, rfl, hc⟩ := row_int hr hd
  clear hr hd
  have hc' := below_ext (below_a1 w (.cells #[.int .i64 xs, .int .i64 dN, .int .i64 xr] 48)) hc
  go_enter Try.func23, Try.ntmps23
  go_wp2
  all_goals
    go_ret2
    refine ⟨_, rfl, below_a1 _ _, ?_⟩
    first
      | exact congrArg (fun z => Value.tuple #[.int .i64 z, .bool (d != -2)]) (by omega : xr = max d 0 + xr)
      | exact congrArg (fun z => Value.tuple #[.int .i64 z, .bool (d != -2)]) (by omega : d + xr = max d 0 + xr)
end Go.Proofs.Ytadekfjgdbngdaa
