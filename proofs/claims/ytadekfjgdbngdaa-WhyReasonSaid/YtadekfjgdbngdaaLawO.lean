/- The law's outlives and look, walked. -/
import Derived.Test.YtadekfjgdbngdaaLawW
import Derived.Test.YtadekfjgdbngdaaEscB
namespace Go.Proofs.Ytadekfjgdbngdaa
open Go Go.RowKit

/-- what outlives, by a list of what escapes -/
def Outl (lp : Nat → Int) (l : List Int) (r t : Nat) : Prop := r < 2 ∨ ((r : Int) ∈ l ∧ r ≠ t) ∨ lp r < lp t

set_option maxRecDepth 20000 in
set_option maxHeartbeats 2000000 in
theorem lawOut_any (aL aE aX : Option Addr) (cL cE cX : Nat) (p : Int) (r t : Nat) (locs : List LocD) (edges : List EdgeD) (l : List Int) (w : World) (hL : Row w 5 aL locs.length (locs.flatMap LocD.cells)) (hX : Row w 1 aX l.length (l.map (Value.int .i64)))
    (hr : r < locs.length) (ht : t < locs.length) (hl : locs.length ≤ 1048576) (hlX : l.length ≤ 1099511627776) :
    Calls Try.prog 13 #[.agg #[.slice aL locs.length cL, .slice aE edges.length cE, .int .i64 p], .slice aX l.length cX, .int .i64 r, .int .i64 t] w (Ret w (IsB (Outl (lpOf locs) l r t))) := by
  have HX := Lib.hid hX
  obtain ⟨x, hx⟩ := get_some hr
  obtain ⟨y, hy⟩ := get_some ht
  have hLa := hL.ext (below_a1 w (.cells #[.slice aL locs.length cL, .slice aE edges.length cE, .int .i64 p] 25))
  obtain ⟨bL, oL, rfl, -, -, -, -, l4, hbL⟩ := loc_at hLa hx
  obtain ⟨bL', oL', he, -, -, -, -, l5, -⟩ := loc_at hLa hy
  simp only [Option.some.injEq, Addr.mk.injEq, and_true] at he
  obtain ⟨rfl, rfl⟩ := he
  have Hlx := Lib.hid (lpOf_some hx)
  have Hly := Lib.hid (lpOf_some hy)
  clear hX hL hLa hx hy
  generalize x.loop = lr at *
  generalize y.loop = lt at *
  have HO : Hid (Outl (lpOf locs) l r t ↔ r < 2 ∨ ((r : Int) ∈ l ∧ r ≠ t) ∨ lr < lt) := by
    refine Lib.hid ?_; unfold Outl; rw [Hlx.out, Hly.out]
  go_enter Try.func13, Try.ntmps13
  go_wp2_with fail
  have k0 : Blk (w.alloc (.cells #[.slice (some ⟨bL, oL, none⟩) locs.length cL, .slice aE edges.length cE, .int .i64 p] 25)) w.heap.size #[.slice (some ⟨bL, oL, none⟩) locs.length cL, .slice aE edges.length cE, .int .i64 p] 25 := Blk.new rfl
  have c0 := k0.cell 0
  simp only [List.getElem?_toArray, List.getElem?_cons_zero] at c0
  have HXa := Lib.hid (HX.out.ext (below_a1 w (.cells #[.slice (some ⟨bL, oL, none⟩) locs.length cL, .slice aE edges.length cE, .int .i64 p] 25)))
  have Hb0 := Lib.hid (below_a1 w (.cells #[.slice (some ⟨bL, oL, none⟩) locs.length cL, .slice aE edges.length cE, .int .i64 p] 25))
  generalize (w.alloc (.cells #[.slice (some ⟨bL, oL, none⟩) locs.length cL, .slice aE edges.length cE, .int .i64 p] 25)) = W at *
  clear k0
  go_loopw [9] (fun i wr => ∃ k : Nat, k ≤ l.length ∧ i = .int .i64 k ∧ Hid (∀ (j : Nat) z, j < k → l[j]? = some z → z = r → r = t) ∧ wr = W) (fun i _ => l.length - (intOf i).toNat)
  case atStart => exact ⟨0, Nat.zero_le _, rfl, fun j z h => by omega, rfl⟩
  case round =>
    obtain ⟨k, hk, rfl, hno, rfl⟩ := hrel
    by_cases hlt : k < l.length
    · obtain ⟨z, hz⟩ := get_some hlt
      obtain ⟨bX, oX, rfl, z1⟩ := row_int HXa.out hz
      have Hz := Lib.hid hz
      clear hz
      have step : (z = r → r = t) → ∀ (j : Nat) z', j < k + 1 → l[j]? = some z' → z' = r → r = t := fun h j z' hj hz' => by
        rcases Nat.lt_or_ge j k with q | q
        · exact hno.out j z' q hz'
        · obtain rfl : j = k := by omega
          have := Hz.out; rw [hz'] at this; cases this; exact h
      have Step := Lib.hid step
      clear step
      by_cases q1 : z = r
      · have g1 : (z == (r : Int)) = true := by simpa using q1
        by_cases q2 : r = t
        · have g2 : ((r : Int) != (t : Int)) = false := by simp [q2]
          have Q2 := Lib.hid q2
          clear q1 q2
          go_wp2
          go_roundw
          case rel => exact ⟨k + 1, by omega, by go_num, Step.out (fun _ => Q2.out), by first | rfl | trivial⟩
          case measure => simp [intOf]; omega
        · have g2 : ((r : Int) != (t : Int)) = true := by simpa using (by omega : ¬ (r : Int) = t)
          have hm : (r : Int) ∈ l := q1 ▸ List.mem_of_getElem? Hz.out
          have Hm := Lib.hid (HO.out.2 (.inr (.inl ⟨hm, q2⟩)))
          clear q1 q2 hm
          go_wp2
          go_ret
          exact ⟨_, rfl, Hb0.out, isB_true Hm.out⟩
      · have g1 : (z == (r : Int)) = false := by simpa using q1
        have Q1 := Lib.hid q1
        clear q1
        go_wp2
        go_roundw
        case rel => exact ⟨k + 1, by omega, by go_num, Step.out (fun h => absurd h Q1.out), by first | rfl | trivial⟩
        case measure => simp [intOf]; omega
    · obtain rfl : k = l.length := by omega
      have hni : ¬ ((r : Int) ∈ l ∧ r ≠ t) := fun ⟨h1, h2⟩ => by
        obtain ⟨j, hj, he⟩ := List.getElem_of_mem h1
        exact h2 (hno.out j _ hj (List.getElem?_eq_getElem hj) he)
      by_cases q1 : r < 2
      · have q1' : (r : Int) < 2 := by omega
        have Hm := Lib.hid (HO.out.2 (.inl q1))
        go_wp2_with fail
        go_quiet (fail)
        go_wp2
        go_ret
        exact ⟨_, rfl, below_drewN Hb0.out _, isB_true Hm.out⟩
      · have q1' : ¬ (r : Int) < 2 := by omega
        have f1 : decide ((r : Int) < 2) = false := by simpa using q1'
        by_cases q4 : lr < lt
        · have Hm := Lib.hid (HO.out.2 (.inr (.inr q4)))
          go_wp2_with fail
          go_quiet (fail)
          go_wp2
          go_ret
          exact ⟨_, rfl, below_drewN Hb0.out _, isB_true Hm.out⟩
        · have Hm := Lib.hid (fun h => by rcases HO.out.1 h with h | h | h <;> first | exact q1 h | exact hni h | exact q4 h : ¬ Outl (lpOf locs) l r t)
          go_wp2_with fail
          go_quiet (fail)
          go_wp2
          go_ret
          refine ⟨_, rfl, below_drewN Hb0.out _, ?_⟩
          first
            | exact isB_false Hm.out
            | exact ⟨decide (lr < lt), rfl, by rw [decide_eq_true_iff]; exact ⟨fun h => by omega, fun h => absurd h Hm.out⟩⟩
end Go.Proofs.Ytadekfjgdbngdaa
