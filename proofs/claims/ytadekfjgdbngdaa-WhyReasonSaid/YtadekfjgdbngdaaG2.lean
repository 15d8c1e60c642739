/- Graphs: what Ints and the two Rights answer. -/
import Derived.Test.YtadekfjgdbngdaaG1
namespace Go.Proofs.Ytadekfjgdbngdaa
open Go Go.RowKit

def heapL : List UInt8 := [104, 101, 97, 112]
def resultL : List UInt8 := [114, 101, 115, 117, 108, 116]

def EdgeOk (n : Nat) (e : EdgeD) : Prop := 0 ≤ e.src ∧ e.src < n ∧ 0 ≤ e.dst ∧ e.dst < n ∧ -1 ≤ e.deref ∧ e.deref ≤ 1048576

structure RightG (locs : List LocD) (edges : List EdgeD) (p : Int) : Prop where
  two : 2 ≤ locs.length
  most : locs.length ≤ 65536
  heap : ∀ l, locs[0]? = some l → l.kind.toList = heapL
  result : ∀ l, locs[1]? = some l → l.kind.toList = resultL
  p0 : 0 ≤ p
  pn : p ≤ locs.length - 2
  loops : ∀ (i : Nat) l, locs[i]? = some l → 0 ≤ l.loop
  edges : ∀ (i : Nat) e, edges[i]? = some e → EdgeOk locs.length e

set_option maxHeartbeats 400000 in
theorem refRight_any (aL aE : Option Addr) (cL cE : Nat) (p : Int) (locs : List LocD) (edges : List EdgeD) (w : World) (hL : Row w 5 aL locs.length (locs.flatMap LocD.cells)) (hE : Row w 3 aE edges.length (edges.flatMap EdgeD.cells))
    (hl : locs.length ≤ maxLen) (hl' : edges.length ≤ maxLen) :
    Calls Try.prog 24 #[.agg #[.slice aL locs.length cL, .slice aE edges.length cE, .int .i64 p]] w (Ret w (IsB (RightG locs edges p))) := by
  unfold maxLen at hl hl'
  by_cases hn : locs.length < 2
  · go_enter Try.func24, Try.ntmps24
    go_wp2
    go_ret
    exact ⟨_, rfl, below_a1 _ _, isB_false fun h => by have := h.two; omega⟩
  · obtain ⟨l0, hl0⟩ := get_some (l := locs) (i := 0) (by omega)
    obtain ⟨l1, hl1⟩ := get_some (l := locs) (i := 1) (by omega)
    obtain ⟨b, off, rfl, k0, -, -, -, -, hb⟩ := loc_at hL hl0
    obtain ⟨b', off', hbb, k1, -, -, -, -, hb'⟩ := loc_at hL hl1
    cases hbb
    simp only [Nat.zero_mul, Nat.add_zero, Nat.one_mul] at k0 k1
    have Hl0 := Lib.hid hl0
    have Hl1 := Lib.hid hl1
    have HL := Lib.hid hL
    have HE := Lib.hid hE
    clear hl0 hl1 hL hE
    have no : ∀ w' : World, (¬ l0.kind.toList = heapL ∨ ¬ l1.kind.toList = resultL ∨ 65536 < locs.length ∨ p < 0 ∨ (locs.length : Int) - 2 < p) → IsB (RightG locs edges p) (.bool false) w' := fun _ h => isB_false fun r => by
      rcases h with h | h | h | h | h
      · exact h (r.heap _ Hl0.out)
      · exact h (r.result _ Hl1.out)
      · have := r.most; omega
      · have := r.p0; omega
      · have := r.pn; omega
    have No := Lib.hid no
    clear no
    go_enter Try.func24, Try.ntmps24
    go_wp2
    all_goals first
      | (go_ret; refine ⟨_, rfl, below_a1 _ _, No.out _ ?_⟩; first | exact .inl ‹_› | exact .inr (.inl ‹_›) | exact .inr (.inr (by omega)))
      | skip
    go_loop [4] (fun i => ∃ k : Nat, k ≤ locs.length ∧ i = .int .i64 k ∧ Hid (∀ j x, j < k → locs[j]? = some x → 0 ≤ x.loop)) (fun i => locs.length - (intOf i).toNat)
    case atStart => exact ⟨0, Nat.zero_le _, rfl, fun j x h => by omega⟩
    case round =>
      obtain ⟨k, hk, rfl, hall⟩ := hrel
      by_cases hlt : k < locs.length
      · obtain ⟨x, hx⟩ := get_some hlt
        obtain ⟨b', off', hbb, -, -, -, -, k4, -⟩ := loc_at HL.out hx
        cases hbb
        have Hx := Lib.hid hx
        clear hx
        go_wp2
        · go_ret
          exact ⟨_, rfl, below_a1 _ _, isB_false fun h => by have := h.loops k x Hx.out; omega⟩
        · go_round
          case rel =>
            refine ⟨k + 1, by omega, by go_num, fun j y hj hy => ?_⟩
            rcases Nat.lt_or_ge j k with h | h
            · exact hall j y h hy
            · obtain rfl : j = k := by omega
              have := Hx.out; rw [hy] at this; cases this; assumption
          case measure => simp [intOf]; omega
      · go_wp2
        have hW1 : Below w.heap.size w (w.alloc (.cells #[.slice (some ⟨b, off, none⟩) locs.length cL, .slice aE edges.length cE, .int .i64 p] 25)) := below_a1 _ _
        have hc1 : (w.alloc (.cells #[.slice (some ⟨b, off, none⟩) locs.length cL, .slice aE edges.length cE, .int .i64 p] 25)).cell? ⟨w.heap.size, 1, none⟩ = some (.slice aE edges.length cE) := by simp
        have hs1 : (w.alloc (.cells #[.slice (some ⟨b, off, none⟩) locs.length cL, .slice aE edges.length cE, .int .i64 p] 25)).heap.size = w.heap.size + 1 := by simp
        generalize (w.alloc (.cells #[.slice (some ⟨b, off, none⟩) locs.length cL, .slice aE edges.length cE, .int .i64 p] 25)) = W1 at hW1 hc1 hs1 ⊢
        have HW1 := Lib.hid hW1
        have Hs1 := Lib.hid hs1
        have Hk : Hid (∀ (j : Nat) (x : LocD), locs[j]? = some x → 0 ≤ x.loop) := fun j x hx => hall j x (by have := get_lt hx; omega) hx
        clear hW1 hs1 hall
        go_loopw [5] (fun i wr => ∃ k : Nat, k ≤ edges.length ∧ i = .int .i64 k ∧ Hid (∀ j x, j < k → edges[j]? = some x → EdgeOk locs.length x) ∧ Hid (Below W1.heap.size W1 wr)) (fun i _ => edges.length - (intOf i).toNat)
        case atStart => exact ⟨0, Nat.zero_le _, rfl, fun j x h => by omega, Below.refl _ _⟩
        case round =>
          obtain ⟨q, hq, rfl, hok, hbel⟩ := hrel
          have hb1 := HW1.out.trans (hbel.out.mono (by have := Hs1.out; omega))
          have hcw := below_ext hbel.out hc1
          have Hb1 := Lib.hid hb1
          clear hb1 hc1
          by_cases hlt2 : q < edges.length
          · obtain ⟨x, hx⟩ := get_some hlt2
            obtain ⟨bE, oE, rfl, e1, e2, e3, hbE⟩ := edge_at (HE.out.ext Hb1.out) hx
            have hsz := cell_lt hcw
            have Hx := Lib.hid hx
            clear hx
            go_wp2
            all_goals first
              | (go_ret; exact ⟨_, rfl, Hb1.out.alloc Hb1.out.size _, isB_false fun h => by have := h.edges q x Hx.out; unfold EdgeOk at this; omega⟩)
              | skip
            go_round
            case rel =>
              refine ⟨q + 1, by omega, by go_num, fun j y hj hy => ?_, hbel.out.alloc hbel.out.size _⟩
              rcases Nat.lt_or_ge j q with h | h
              · exact hok j y h hy
              · obtain rfl : j = q := by omega
                have := Hx.out; rw [hy] at this; cases this; exact ⟨by omega, by omega, by omega, by omega, by omega, by omega⟩
            case measure => simp [intOf]; omega
          · go_wp2
            go_ret
            exact ⟨_, rfl, Hb1.out, isB_true ⟨by omega, by omega, fun l h => by have := Hl0.out; rw [h] at this; cases this; assumption, fun l h => by have := Hl1.out; rw [h] at this; cases this; assumption, by omega, by omega, Hk.out, fun j e h => hok j e (by have := get_lt h; omega) h⟩⟩

end Go.Proofs.Ytadekfjgdbngdaa
