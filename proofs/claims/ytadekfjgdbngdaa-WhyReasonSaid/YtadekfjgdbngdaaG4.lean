/- Graphs: the program's Right. -/
import Derived.Test.YtadekfjgdbngdaaG3
namespace Go.Proofs.Ytadekfjgdbngdaa
open Go Go.RowKit

set_option maxHeartbeats 800000 in
theorem right_any (aL aE : Option Addr) (cL cE : Nat) (p : Int) (locs : List LocD) (edges : List EdgeD) (w : World) (hL : Row w 5 aL locs.length (locs.flatMap LocD.cells)) (hE : Row w 3 aE edges.length (edges.flatMap EdgeD.cells))
    (hl : locs.length ≤ maxLen) (hl' : edges.length ≤ maxLen) :
    Calls Try.prog 50 #[.agg #[.slice aL locs.length cL, .slice aE edges.length cE, .int .i64 p]] w (Ret w (IsB (RightG locs edges p))) := by
  have hl0 := hl
  have hl0' := hl'
  unfold maxLen at hl hl'
  by_cases hn : locs.length < 2
  · go_enter Try.func50, Try.ntmps50
    go_wp2
    go_ret
    exact ⟨_, rfl, (below_a1 _ _).alloc (by simp) _, isB_false fun h => by have := h.two; omega⟩
  · obtain ⟨l0, hl0⟩ := get_some (l := locs) (i := 0) (by omega)
    obtain ⟨l1, hl1⟩ := get_some (l := locs) (i := 1) (by omega)
    obtain ⟨b, off, rfl, k0, -, -, -, -, hb⟩ := loc_at hL hl0
    obtain ⟨b', off', hbb, k1, -, -, -, -, hb'⟩ := loc_at hL hl1
    cases hbb
    simp only [Nat.zero_mul, Nat.add_zero, Nat.one_mul] at k0 k1
    have Hl0 := Lib.hid hl0
    have Hl1 := Lib.hid hl1
    have HL := Lib.hid hL
    have HE := Lib.hid hE
    clear hl0 hl1 hL hE
    have no : ∀ w' : World, (¬ l0.kind.toList = heapL ∨ ¬ l1.kind.toList = resultL ∨ 65536 < locs.length ∨ p < 0 ∨ (locs.length : Int) - 2 < p) → IsB (RightG locs edges p) (.bool false) w' := fun _ h => isB_false fun r => by
      rcases h with h | h | h | h | h
      · exact h (r.heap _ Hl0.out)
      · exact h (r.result _ Hl1.out)
      · have := r.most; omega
      · have := r.p0; omega
      · have := r.pn; omega
    have No := Lib.hid no
    clear no
    go_enter Try.func50, Try.ntmps50
    go_wp2_with fail
    all_goals first
      | (go_ret; refine ⟨_, rfl, (below_a1 _ _).alloc (by simp) _, No.out _ ?_⟩; first | exact .inl ‹_› | exact .inr (.inl ‹_›) | exact .inr (.inr (by omega)))
      | skip
    refine (contEdge_any aE cE edges locs.length (w.heap.size + 2) (w.heap.size + 1) _ (HE.out.ext ?_) hl0' ?_ ?_).mono ?_
    case _ => exact (((below_a1 _ _).alloc (by simp) _).alloc (by simp; omega) _)
    case _ => simp [go_sem]
    case _ => simp [go_sem]
    rintro e w1 ⟨v, rfl, hb1, i, rfl, hi⟩
    have c0 := below_ext (p := ⟨w.heap.size, 0, none⟩) (v := .slice (some ⟨b, off, none⟩) locs.length cL) hb1 (by simp [go_sem])
    have Hb1 := Lib.hid ((((below_a1 _ _).alloc (by simp) _).alloc (by simp; omega) _).trans (hb1.mono (by simp; omega)))
    have Hi := Lib.hid hi
    clear hb1 hi
    cases i
    · go_wp2_with fail
      refine (contLoc_any _ cL locs _ (HL.out.ext Hb1.out) hl0).mono ?_
      rintro e w2 ⟨v, rfl, hb2, i, rfl, hi2⟩
      have Hb2 := Lib.hid (Hb1.out.trans (hb2.mono Hb1.out.size))
      have Hi2 := Lib.hid hi2
      clear hb2 hi2
      go_wp2
      go_ret
      refine ⟨_, rfl, Hb2.out, isB_of ?_⟩
      have n1 := Hi.out
      have n2 := Hi2.out
      simp at n1
      constructor
      · intro h
        have h' : ¬ i = true := by simpa using h
        refine ⟨by omega, by omega, fun l h => ?_, fun l h => ?_, by omega, by omega, fun j l hj => ?_, fun j x hj => n1 j x hj⟩
        · have := Hl0.out; rw [h] at this; cases this; assumption
        · have := Hl1.out; rw [h] at this; cases this; assumption
        · rcases Int.lt_or_le l.loop 0 with h3 | h3
          · exact absurd (n2.2 ⟨j, l, hj, h3⟩) h'
          · exact h3
      · intro h
        cases i
        · rfl
        · obtain ⟨j, x, hx, hl⟩ := n2.1 rfl
          have := h.loops j x hx; omega
    · go_wp2
      go_ret
      refine ⟨_, rfl, Hb1.out, isB_false fun h => ?_⟩
      have n1 := Hi.out
      simp at n1
      obtain ⟨j, x, hx, he⟩ := n1
      exact he (h.edges j x hx)

end Go.Proofs.Ytadekfjgdbngdaa
