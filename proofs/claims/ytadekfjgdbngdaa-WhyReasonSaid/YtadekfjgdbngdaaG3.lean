/- Graphs: what the program's Right answers, through its closures. -/
import Derived.Test.YtadekfjgdbngdaaG2
namespace Go.Proofs.Ytadekfjgdbngdaa
open Go Go.RowKit

set_option maxHeartbeats 400000 in
theorem there_any (i : Int) (n : Nat) (bn : Nat) (w : World) (hn : w.cell? ⟨bn, 0, none⟩ = some (.int .i64 n)) :
    Calls Try.prog 60 #[.int .i64 i, .pointer (some ⟨bn, 0, none⟩)] w (Ret w (IsB (0 ≤ i ∧ i < n))) := by
  go_enter Try.func60, Try.ntmps60
  go_wp2
  all_goals (go_ret; exact ⟨_, rfl, Below.refl _ _, isB_of (by simp <;> omega)⟩)

set_option maxHeartbeats 400000 in
theorem wrongEdge_any (x : EdgeD) (n : Nat) (bt bn : Nat) (w : World) (ht : w.cell? ⟨bt, 0, none⟩ = some (.func (.func 60) #[] #[.pointer (some ⟨bn, 0, none⟩)])) (hn : w.cell? ⟨bn, 0, none⟩ = some (.int .i64 n)) :
    Calls Try.prog 62 #[.agg #[.int .i64 x.src, .int .i64 x.dst, .int .i64 x.deref], .pointer (some ⟨bt, 0, none⟩)] w (Ret w (IsB (¬ EdgeOk n x))) := by
  have hbn := cell_lt hn
  have hbt := cell_lt ht
  go_enter Try.func62, Try.ntmps62
  go_wp2_with fail
  refine (there_any x.src n bn _ (below_ext (below_a1 _ _) hn)).mono ?_
  rintro e w1 ⟨v, rfl, hb1, b, rfl, hib⟩
  have hn1 := below_ext ((below_a1 _ _).trans (hb1.mono (by simp))) hn
  have ht1 := below_ext ((below_a1 _ _).trans (hb1.mono (by simp))) ht
  have c0 := below_ext (p := ⟨w.heap.size, 0, none⟩) (v := .int .i64 x.src) hb1 (by simp)
  have c1 := below_ext (p := ⟨w.heap.size, 1, none⟩) (v := .int .i64 x.dst) hb1 (by simp)
  have c2 := below_ext (p := ⟨w.heap.size, 2, none⟩) (v := .int .i64 x.deref) hb1 (by simp)
  have Hb1 := Lib.hid ((below_a1 _ _).trans (hb1.mono (by simp)))
  have Hib := Lib.hid hib
  clear hb1 hib
  cases b
  · go_wp2
    go_ret
    exact ⟨_, rfl, Hb1.out, isB_true fun h => by have := Hib.out.2 ⟨h.1, h.2.1⟩; cases this⟩
  · go_wp2_with fail
    refine (there_any x.dst n bn _ hn1).mono ?_
    rintro e w2 ⟨v, rfl, hb2, b, rfl, hib2⟩
    have c0 := below_ext hb2 c0
    have c1 := below_ext hb2 c1
    have c2 := below_ext hb2 c2
    have Hb2 := Lib.hid (Hb1.out.trans (hb2.mono Hb1.out.size))
    have Hib2 := Lib.hid hib2
    clear hb2 hib2
    cases b
    · go_wp2
      go_ret
      exact ⟨_, rfl, Hb2.out, isB_true fun h => by have := Hib2.out.2 ⟨h.2.2.1, h.2.2.2.1⟩; cases this⟩
    · have f1 : 0 ≤ x.src ∧ x.src < n := by have := Hib.out; simpa using this
      have f2 : 0 ≤ x.dst ∧ x.dst < n := by have := Hib2.out; simpa using this
      go_wp2
      all_goals (go_ret; exact ⟨_, rfl, Hb2.out, isB_of (by unfold EdgeOk; simp <;> omega)⟩)

set_option maxHeartbeats 400000 in
theorem wrongLoc_any (x : LocD) (w : World) :
    Calls Try.prog 64 #[.agg #[.string x.kind, .string x.name, .int .i64 x.fr, .int .i64 x.to, .int .i64 x.loop]] w (Ret w (IsB (x.loop < 0))) := by
  go_enter Try.func64, Try.ntmps64
  go_wp2
  go_ret
  exact ⟨_, rfl, below_a1 _ _, isB_of (by simp)⟩

/-- the first place of a list at which p holds, or -1 -/
def IsIdx {α : Type} (l : List α) (p : α → Prop) (v : Value) (_ : World) : Prop :=
  ∃ i : Int, v = .int .i64 i ∧ -1 ≤ i ∧ (0 ≤ i ↔ ∃ (j : Nat) (x : α), l[j]? = some x ∧ p x)

set_option maxHeartbeats 400000 in
theorem idxEdge_any (aE : Option Addr) (cE : Nat) (edges : List EdgeD) (n bt bn : Nat) (w : World) (hE : Row w 3 aE edges.length (edges.flatMap EdgeD.cells)) (hl : edges.length ≤ maxLen)
    (ht : w.cell? ⟨bt, 0, none⟩ = some (.func (.func 60) #[] #[.pointer (some ⟨bn, 0, none⟩)])) (hn : w.cell? ⟨bn, 0, none⟩ = some (.int .i64 n)) :
    Calls Try.prog 78 #[.slice aE edges.length cE, .func (.func 62) #[] #[.pointer (some ⟨bt, 0, none⟩)]] w (Ret w (IsIdx edges fun x => ¬ EdgeOk n x)) := by
  unfold maxLen at hl
  have HE := Lib.hid hE
  have Ht := Lib.hid ht
  have Hn := Lib.hid hn
  clear hE ht hn
  go_enter Try.func78, Try.ntmps78
  go_wp2
  go_loopw [5, 8] (fun _ i wr => ∃ k : Nat, k ≤ edges.length ∧ i = .int .i64 k ∧ Hid (∀ j x, j < k → edges[j]? = some x → EdgeOk n x) ∧ Hid (Below w.heap.size w wr)) (fun _ i _ => edges.length - (intOf i).toNat)
  case atStart => exact ⟨0, Nat.zero_le _, rfl, fun j x h => by omega, Below.refl _ _⟩
  case round =>
    obtain ⟨k, hk, rfl, hok, hbel⟩ := hrel
    by_cases hlt : k < edges.length
    · obtain ⟨x, hx⟩ := get_some hlt
      obtain ⟨bE, oE, rfl, e1, e2, e3, hbE⟩ := edge_at (HE.out.ext hbel.out) hx
      have Hx := Lib.hid hx
      clear hx
      go_wp2_with fail
      refine (wrongEdge_any x n bt bn _ (below_ext hbel.out Ht.out) (below_ext hbel.out Hn.out)).mono ?_
      rintro e w1 ⟨v, rfl, hb1, b, rfl, hib⟩
      have Hb1 := Lib.hid (hbel.out.trans (hb1.mono hbel.out.size))
      have Hib := Lib.hid hib
      clear hb1 hib
      cases b
      · go_wp2
        go_roundw
        case rel =>
          refine ⟨k + 1, by omega, by go_num, fun j y hj hy => ?_, Hb1⟩
          rcases Nat.lt_or_ge j k with h | h
          · exact hok j y h hy
          · obtain rfl : j = k := by omega
            have := Hx.out; rw [hy] at this; cases this
            have := Hib.out; simp at this; exact this
        case measure => simp [intOf]; omega
      · go_wp2
        go_ret
        exact ⟨_, rfl, Hb1.out, k, rfl, by omega, by constructor <;> intro _; exact ⟨k, x, Hx.out, by have := Hib.out; simpa using this⟩; omega⟩
    · go_wp2
      go_ret
      exact ⟨_, rfl, hbel.out, -1, rfl, by omega, by constructor; · intro h; omega
                                                     · rintro ⟨j, x, hx, hp⟩; exact absurd (hok j x (by have := get_lt hx; omega) hx) hp⟩

set_option maxHeartbeats 400000 in
theorem idxLoc_any (aL : Option Addr) (cL : Nat) (locs : List LocD) (w : World) (hL : Row w 5 aL locs.length (locs.flatMap LocD.cells)) (hl : locs.length ≤ maxLen) :
    Calls Try.prog 79 #[.slice aL locs.length cL, .func (.func 64) #[] #[]] w (Ret w (IsIdx locs fun x => x.loop < 0)) := by
  unfold maxLen at hl
  have HL := Lib.hid hL
  clear hL
  go_enter Try.func79, Try.ntmps79
  go_wp2
  go_loopw [5, 8] (fun _ i wr => ∃ k : Nat, k ≤ locs.length ∧ i = .int .i64 k ∧ Hid (∀ (j : Nat) (x : LocD), j < k → locs[j]? = some x → 0 ≤ x.loop) ∧ Hid (Below w.heap.size w wr)) (fun _ i _ => locs.length - (intOf i).toNat)
  case atStart => exact ⟨0, Nat.zero_le _, rfl, fun j x h => by omega, Below.refl _ _⟩
  case round =>
    obtain ⟨k, hk, rfl, hok, hbel⟩ := hrel
    by_cases hlt : k < locs.length
    · obtain ⟨x, hx⟩ := get_some hlt
      obtain ⟨bE, oE, rfl, e1, e2, e3, e4, e5, hbE⟩ := loc_at (HL.out.ext hbel.out) hx
      have Hx := Lib.hid hx
      clear hx
      go_wp2_with fail
      refine (wrongLoc_any x _).mono ?_
      rintro e w1 ⟨v, rfl, hb1, b, rfl, hib⟩
      have Hb1 := Lib.hid (hbel.out.trans (hb1.mono hbel.out.size))
      have Hib := Lib.hid hib
      clear hb1 hib
      cases b
      · go_wp2
        go_roundw
        case rel =>
          refine ⟨k + 1, by omega, by go_num, fun j y hj hy => ?_, Hb1⟩
          rcases Nat.lt_or_ge j k with h | h
          · exact hok j y h hy
          · obtain rfl : j = k := by omega
            have := Hx.out; rw [hy] at this; cases this
            have := Hib.out; simp at this; exact this
        case measure => simp [intOf]; omega
      · go_wp2
        go_ret
        exact ⟨_, rfl, Hb1.out, k, rfl, by omega, by constructor <;> intro _; exact ⟨k, x, Hx.out, by have := Hib.out; simpa using this⟩; omega⟩
    · go_wp2
      go_ret
      exact ⟨_, rfl, hbel.out, -1, rfl, by omega, by constructor; · intro h; omega
                                                     · rintro ⟨j, x, hx, hp⟩; have := hok j x (by have := get_lt hx; omega) hx; omega⟩

set_option maxHeartbeats 400000 in
theorem contEdge_any (aE : Option Addr) (cE : Nat) (edges : List EdgeD) (n bt bn : Nat) (w : World) (hE : Row w 3 aE edges.length (edges.flatMap EdgeD.cells)) (hl : edges.length ≤ maxLen)
    (ht : w.cell? ⟨bt, 0, none⟩ = some (.func (.func 60) #[] #[.pointer (some ⟨bn, 0, none⟩)])) (hn : w.cell? ⟨bn, 0, none⟩ = some (.int .i64 n)) :
    Calls Try.prog 61 #[.slice aE edges.length cE, .func (.func 62) #[] #[.pointer (some ⟨bt, 0, none⟩)]] w (Ret w (IsB (∃ (j : Nat) (x : EdgeD), edges[j]? = some x ∧ ¬ EdgeOk n x))) := by
  go_enter Try.func61, Try.ntmps61
  go_wp2_with fail
  refine (idxEdge_any aE cE edges n bt bn _ hE hl ht hn).mono ?_
  rintro e w1 ⟨v, rfl, hb1, i, rfl, h1, h2⟩
  have H2 := Lib.hid h2
  clear h2
  go_wp2
  all_goals (go_ret; exact ⟨_, rfl, hb1, isB_of (by rw [← H2.out]; simp)⟩)

set_option maxHeartbeats 400000 in
theorem contLoc_any (aL : Option Addr) (cL : Nat) (locs : List LocD) (w : World) (hL : Row w 5 aL locs.length (locs.flatMap LocD.cells)) (hl : locs.length ≤ maxLen) :
    Calls Try.prog 63 #[.slice aL locs.length cL, .func (.func 64) #[] #[]] w (Ret w (IsB (∃ (j : Nat) (x : LocD), locs[j]? = some x ∧ x.loop < 0))) := by
  go_enter Try.func63, Try.ntmps63
  go_wp2_with fail
  refine (idxLoc_any aL cL locs _ hL hl).mono ?_
  rintro e w1 ⟨v, rfl, hb1, i, rfl, h1, h2⟩
  have H2 := Lib.hid h2
  clear h2
  go_wp2
  all_goals (go_ret; exact ⟨_, rfl, hb1, isB_of (by rw [← H2.out]; simp)⟩)

end Go.Proofs.Ytadekfjgdbngdaa
