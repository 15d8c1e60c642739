/- The order of edges that made sorts by: cmp.Or of two cmp.Compare, walked. -/
import Derived.Test.YtadekfjgdbngdaaFwd
import Derived.Test.YtadekfjgdbngdaaSortE
import Derived.Test.YtadekfjgdbngdaaShelf
import Derived.Deep.RegionHeld3
namespace Go.Proofs.Ytadekfjgdbngdaa
open Go Go.RowKit Go.Shelf Go.Sort

def orI (x y : Int) : Int := if x = 0 then y else x
theorem or_any (b : Nat) (x y : Int) (w : World) (h0 : w.cell? ⟨b, 0, none⟩ = some (.int .i64 x)) (h1 : w.cell? ⟨b, 1, none⟩ = some (.int .i64 y)) :
    Calls Try.prog 40 #[.slice (some ⟨b, 0, none⟩) 2 2] w fun e w' => e = .returned (.int .i64 (orI x y)) ∧ w = w' := by
  go_enter Try.func40, Try.ntmps40
  go_wp2
  refine wp_loop_rounds 3 ?_
  rw [rounds_succ]
  by_cases hx : x = 0
  · have fx : (x != 0) = false := by simpa using hx
    go_wp2
    rw [rounds_succ]
    by_cases hy : y = 0
    · have fy : (y != 0) = false := by simpa using hy
      go_wp2
      rw [rounds_succ]
      go_wp2
      go_ret
      exact ⟨by simp [orI, *], rfl⟩
    · have fy : (y != 0) = true := by simpa using hy
      go_wp2
      go_ret
      exact ⟨by simp [orI, *], rfl⟩
  · have fx : (x != 0) = true := by simpa using hx
    go_wp2
    go_ret
    exact ⟨by simp [orI, *], rfl⟩

theorem cfE_eq (x y : EdgeD) : orI (Lib.compareInt x.dst y.dst) (Lib.compareInt x.deref y.deref) = cfE x y := by
  unfold orI Lib.compareInt cfE
  by_cases h1 : x.dst < y.dst
  · simp [h1]
  · by_cases h2 : y.dst < x.dst
    · simp [h1, h2]
    · simp [h1, h2]

set_option maxHeartbeats 1000000 in
theorem cmpE_any (x y : EdgeD) (W : World) : Calls Try.prog 39 #[.agg x.cells.toArray, .agg y.cells.toArray] W fun e w' => e = .returned (.int .i64 (cfE x y)) ∧ ∃ q os', w' = grow (W.drewN q) os' := by
  obtain ⟨xs, xd, xr⟩ := x
  obtain ⟨ys, yd, yr⟩ := y
  have he := cfE_eq ⟨xs, xd, xr⟩ ⟨ys, yd, yr⟩
  simp only at he
  have He := Lib.hid he
  clear he
  simp only [EdgeD.cells]
  go_enter Try.func39, Try.ntmps39
  go_wp2_with fail
  go_region_held3 (fun w' => w'.cell? ⟨W.heap.size, 1, none⟩ = some (.int .i64 xd) ∧ w'.cell? ⟨W.heap.size, 2, none⟩ = some (.int .i64 xr) ∧ w'.cell? ⟨W.heap.size + 1, 1, none⟩ = some (.int .i64 yd) ∧ w'.cell? ⟨W.heap.size + 1, 2, none⟩ = some (.int .i64 yr)) (go_keep) (first | (go_at_call 34; refine (Try.cmp_Compare_int _ _ _).mono ?_; rintro e w' ⟨rfl, rfl⟩) | (go_at_call 40; refine (or_any _ (Lib.compareInt xd yd) (Lib.compareInt xr yr) _ (by simp; exact (cell_new (by simp)).trans rfl) (by simp; exact (cell_new (by simp)).trans rfl)).mono ?_; rintro e w' ⟨rfl, rfl⟩))
  go_wp2
  go_ret
  refine ⟨congrArg (fun z => Ending.returned (.int .i64 z)) He.out, 1, #[.cells #[.int .i64 xs, .int .i64 xd, .int .i64 xr] 48, .cells #[.int .i64 ys, .int .i64 yd, .int .i64 yr] 48, .cells #[.int .i64 (Lib.compareInt xd yd), .int .i64 (Lib.compareInt xr yr)] 3], ?_⟩
  rw [alloc_eq_grow, alloc_eq_grow, alloc_eq_grow, grow_grow, grow_grow]
  rfl
end Go.Proofs.Ytadekfjgdbngdaa
