/- The document's graph handed over as the program's. -/
import Derived.Test.YtadekfjgdbngdaaG1
namespace Go.Proofs.Ytadekfjgdbngdaa
open Go Go.RowKit

/-- a graph's value -/
def IsG (locs : List LocD) (edges : List EdgeD) (p : Int) (v : Value) (w : World) : Prop :=
  ∃ aL cL aE cE, v = .agg #[.slice aL locs.length cL, .slice aE edges.length cE, .int .i64 p] ∧ Row w 5 aL locs.length (locs.flatMap LocD.cells) ∧ Row w 3 aE edges.length (edges.flatMap EdgeD.cells)

theorem Try.infoLoc : (Try.prog.info? 47).map (fun i => (i.zero, i.size, i.bytes)) = some (some (.agg #[.string ByteArray.empty, .string ByteArray.empty, .int .i64 0, .int .i64 0, .int .i64 0]), 5, 56) := by kernel_rfl
theorem Try.infoEdge : (Try.prog.info? 48).map (fun i => (i.zero, i.size, i.bytes)) = some (some (.agg #[.int .i64 0, .int .i64 0, .int .i64 0]), 3, 24) := by kernel_rfl

theorem loc_cells1 (x : LocD) : ∀ u ∈ x.cells, u.oneCell' = true := by intro u hu; simp [LocD.cells] at hu; rcases hu with rfl | rfl | rfl | rfl | rfl <;> rfl
theorem edge_cells1 (x : EdgeD) : ∀ u ∈ x.cells, u.oneCell' = true := by intro u hu; simp [EdgeD.cells] at hu; rcases hu with rfl | rfl | rfl <;> rfl

theorem take_flat {α : Type} (enc : α → List Value) (l : List α) {k : Nat} {x : α} (hx : l[k]? = some x) : (l.take k).flatMap enc ++ enc x = (l.take (k + 1)).flatMap enc := by
  have h := (List.getElem?_eq_some_iff.1 hx)
  obtain ⟨h1, h2⟩ := h
  rw [List.take_succ_eq_append_getElem h1, List.flatMap_append, h2]; simp

set_option maxHeartbeats 1000000 in
theorem of_any (aL aE : Option Addr) (cL cE : Nat) (p : Int) (locs : List LocD) (edges : List EdgeD) (w : World) (hL : Row w 5 aL locs.length (locs.flatMap LocD.cells)) (hE : Row w 3 aE edges.length (edges.flatMap EdgeD.cells))
    (hl : locs.length ≤ 1048576) (hl' : edges.length ≤ 1048576) :
    Calls Try.prog 8 #[.agg #[.slice aL locs.length cL, .slice aE edges.length cE, .int .i64 p]] w (Ret w (IsG locs edges p)) := by
  have HL := Lib.hid hL
  have HE := Lib.hid hE
  clear hL hE
  go_enter Try.func8, Try.ntmps8
  go_wp2_with fail
  generalize hW0 : ((w.alloc (.cells #[.slice aL locs.length cL, .slice aE edges.length cE, .int .i64 p] 25)).alloc (.cells #[.slice none 0 0, .slice none 0 0, .int .i64 0] 35)).alloc (.cells #[.slice none 0 0, .slice none 0 0, .int .i64 p] 35) = W0
  have hb0 : Below w.heap.size w W0 := by subst hW0; exact ((below_a1 _ _).alloc (by simp) _).alloc (by simp; omega) _
  have k0 : Blk W0 w.heap.size #[.slice aL locs.length cL, .slice aE edges.length cE, .int .i64 p] 25 := by subst hW0; exact ((Blk.new rfl).alloc _).alloc _
  have k1 : Blk W0 (w.heap.size + 1) #[.slice none 0 0, .slice none 0 0, .int .i64 0] 35 := by subst hW0; exact (Blk.new (by simp)).alloc _
  have k2 : Blk W0 (w.heap.size + 1 + 1) #[.slice none 0 0, .slice none 0 0, .int .i64 p] 35 := by subst hW0; exact Blk.new (by simp)
  have K0 := Lib.hid (And.intro hb0 (And.intro k0 (And.intro k1 k2)))
  have hsz0 : w.heap.size + 3 ≤ W0.heap.size := by have := k2.lt; omega
  have Hsz0 := Lib.hid hsz0
  clear hW0 hb0 k0 k1 k2 hsz0
  go_loopw [4] (fun i wr => ∃ k : Nat, k ≤ locs.length ∧ i = .int .i64 k ∧ ∃ a cap, Hid (Below w.heap.size w wr ∧ Blk wr w.heap.size #[.slice aL locs.length cL, .slice aE edges.length cE, .int .i64 p] 25 ∧ Blk wr (w.heap.size + 1) #[.slice none 0 0, .slice none 0 0, .int .i64 0] 35 ∧
      Blk wr (w.heap.size + 1 + 1) #[.slice a k cap, .slice none 0 0, .int .i64 p] 35) ∧ Hid (Own wr (w.heap.size + 3) 47 5 a k cap ((locs.take k).flatMap LocD.cells)) ∧ Hid (w.heap.size + 3 ≤ wr.heap.size)) (fun i _ => locs.length - (intOf i).toNat)
  case atStart => exact ⟨0, Nat.zero_le _, rfl, none, 0, K0, Own.nil _ _ _ _, Hsz0⟩
  case round =>
    clear K0 Hsz0
    obtain ⟨k, hk, rfl, a, cap, hK, hown, hsz⟩ := hrel
    have c0 := hK.out.2.1.cell 0
    have c1 := hK.out.2.1.cell 1
    have s1 := hsz.out
    have s2 : w.heap.size + 1 + 1 < wr.heap.size := by omega
    have s3 : w.heap.size < wr.heap.size := by omega
    have f2 := hK.out.2.2.2.free 0
    simp only [List.getElem?_toArray, List.getElem?_cons_zero, List.getElem?_cons_succ] at c0 c1
    have c2 := hK.out.2.2.2.cell 0
    simp only [List.getElem?_toArray, List.getElem?_cons_zero] at c2
    by_cases hlt : k < locs.length
    · obtain ⟨x, hx⟩ := get_some hlt
      obtain ⟨b, off, rfl, e0, e1, e2, e3, e4, hb⟩ := loc_at (HL.out.ext hK.out.1) hx
      have Hx := Lib.hid hx
      clear hx
      go_wp2_with ((at_builtin; refine wpList_append_Own rfl _ _ 32 rfl (w.heap.size + 3) 47 _ 5 56 Try.underlying32 Try.infoLoc rfl (by decide) a k cap _ rfl ((hown.out.alloc _).alloc _) _ 1 1 x.cells rfl (Row.new1 (by simp) rfl rfl) (loc_cells1 x) (by unfold maxLen; omega) (by omega) (by simp; omega) ?_); intro a' cap' w1 hown1 hg1 hbk; have q2 := ((hK.out.2.2.2.alloc _).alloc _).grown hg1 (hown.out.apart (by omega)); have d2 := q2.cell 0; simp only [List.getElem?_toArray, List.getElem?_cons_zero] at d2; have g2 := q2.free 0)
      have q0 := ((hK.out.2.1.alloc _).alloc _).grown hg1 (hown.out.apart (by omega))
      have q1 := ((hK.out.2.2.1.alloc _).alloc _).grown hg1 (hown.out.apart (by omega))
      have qb := ((hK.out.1.alloc (by omega) _).alloc (by simp; omega) _).grown hg1 (by simp; omega) (hown.out.rowBase (by omega))
      have hz := hg1.size
      simp only [World.size_alloc] at hz
      rw [take_flat _ _ Hx.out] at hown1
      go_roundw
      case rel =>
        refine ⟨k + 1, by omega, by go_num, a', cap', ⟨qb.setCell (by show w.heap.size ≤ w.heap.size + 1 + 1; omega) _, q0.other (by show w.heap.size ≠ w.heap.size + 1 + 1; omega) _, q1.other (by show w.heap.size + 1 ≠ w.heap.size + 1 + 1; omega) _, q2.set 0 _⟩, hown1.setCell_other (fun h => by have := hown1.base h; simp at this; omega) _, ?_⟩
        show _ ≤ _
        simp; omega
      case measure => simp [intOf]; omega
    · go_wp2_with fail
      obtain rfl : k = locs.length := by omega
      have hown0 := hown.out
      rw [List.take_length] at hown0
      have Hown0 := Lib.hid hown0
      have Hcl := Lib.hid hown0.le
      clear hown0 hown c0 c2 f2
      go_loopw [6] (fun i wq => ∃ k : Nat, k ≤ edges.length ∧ i = .int .i64 k ∧ ∃ a2 cap2, Hid (Below w.heap.size w wq ∧ Blk wq w.heap.size #[.slice aL locs.length cL, .slice aE edges.length cE, .int .i64 p] 25 ∧ Blk wq (w.heap.size + 1) #[.slice none 0 0, .slice none 0 0, .int .i64 0] 35 ∧
          Blk wq (w.heap.size + 1 + 1) #[.slice a locs.length cap, .slice a2 k cap2, .int .i64 p] 35) ∧ Hid (Own wq (w.heap.size + 3) 48 3 a2 k cap2 ((edges.take k).flatMap EdgeD.cells)) ∧ Hid (Own wq (w.heap.size + 3) 47 5 a locs.length cap (locs.flatMap LocD.cells)) ∧ Hid (w.heap.size + 3 ≤ wq.heap.size)) (fun i _ => edges.length - (intOf i).toNat)
      case atStart => exact ⟨0, Nat.zero_le _, rfl, none, 0, hK, Own.nil _ _ _ _, Hown0, hsz⟩
      case round =>
        clear hK hsz Hown0 s1 s2 s3 c1
        obtain ⟨k, hk, rfl, a2, cap2, hK, hown, hownL, hsz⟩ := hrel
        have c1 := hK.out.2.1.cell 1
        have s1 := hsz.out
        have s2 : w.heap.size + 1 + 1 < wr.heap.size := by omega
        have s3 : w.heap.size < wr.heap.size := by omega
        have s4 : w.heap.size + 1 < wr.heap.size := by omega
        have f2 := hK.out.2.2.2.free 1
        have c2 := hK.out.2.2.2.cell 1
        simp only [List.getElem?_toArray, List.getElem?_cons_zero, List.getElem?_cons_succ] at c1 c2
        by_cases hlt : k < edges.length
        · obtain ⟨x, hx⟩ := get_some hlt
          obtain ⟨b, off, rfl, e0, e1, e2, hb⟩ := edge_at (HE.out.ext hK.out.1) hx
          have Hx := Lib.hid hx
          clear hx
          go_wp2_with ((at_builtin; refine wpList_append_Own rfl _ _ 33 rfl (w.heap.size + 3) 48 _ 3 24 Try.underlying33 Try.infoEdge rfl (by decide) a2 k cap2 _ rfl ((hown.out.alloc _).alloc _) _ 1 1 x.cells rfl (Row.new1 (by simp) rfl rfl) (edge_cells1 x) (by unfold maxLen; omega) (by omega) (by simp; omega) ?_); intro a' cap' w1 hown1 hg1 hbk; have q2 := ((hK.out.2.2.2.alloc _).alloc _).grown hg1 (hown.out.apart (by omega)); have d2 := q2.cell 1; simp only [List.getElem?_toArray, List.getElem?_cons_zero, List.getElem?_cons_succ] at d2; have g2 := q2.free 1)
          have q0 := ((hK.out.2.1.alloc _).alloc _).grown hg1 (hown.out.apart (by omega))
          have q1 := ((hK.out.2.2.1.alloc _).alloc _).grown hg1 (hown.out.apart (by omega))
          have qb := ((hK.out.1.alloc (by omega) _).alloc (by simp; omega) _).grown hg1 (by simp; omega) (hown.out.rowBase (by omega))
          have qL := ((hownL.out.alloc _).alloc _).keptType ((hown.out.alloc _).alloc _) (by decide) hg1
          have hz := hg1.size
          simp only [World.size_alloc] at hz
          rw [take_flat _ _ Hx.out] at hown1
          go_roundw
          case rel =>
            refine ⟨k + 1, by omega, by go_num, a', cap', ⟨qb.setCell (by show w.heap.size ≤ w.heap.size + 1 + 1; omega) _, q0.other (by show w.heap.size ≠ w.heap.size + 1 + 1; omega) _, q1.other (by show w.heap.size + 1 ≠ w.heap.size + 1 + 1; omega) _, q2.set 1 _⟩, hown1.setCell_other (fun h => by have := hown1.base h; simp at this; omega) _, qL.setCell_other (fun h => by have := qL.base h; simp at this; omega) _, ?_⟩
            show _ ≤ _
            simp; omega
          case measure => simp [intOf]; omega
        · obtain rfl : k = edges.length := by omega
          have c3 := hK.out.2.2.2.cell 0
          have c4 := hK.out.2.2.2.cell 2
          have r0 := hK.out.2.2.1.cell 0
          have r1 := hK.out.2.2.1.cell 1
          have r2 := hK.out.2.2.1.cell 2
          have g0 := hK.out.2.2.1.free 0
          have g1 := hK.out.2.2.1.free 1
          have g2 := hK.out.2.2.1.free 2
          simp only [List.getElem?_toArray, List.getElem?_cons_zero, List.getElem?_cons_succ] at c3 c4 r0 r1 r2
          go_wp2
          refine bodyPost_ret (v := .agg #[.slice a locs.length cap, .slice a2 edges.length cap2, .int .i64 p]) (by simp [results, Try.results8, go_sem, r0, r1, r2]) rfl ⟨_, rfl, ?_, a, cap, a2, cap2, rfl, ?_, ?_⟩
          · exact ((hK.out.1.setCell (by simp) _).setCell (by simp) _).setCell (by simp) _
          · exact (((hownL.out.setCell_other (fun h => by have := hownL.out.base h; simp at this) _).setCell_other (fun h => by have := hownL.out.base h; simp at this) _).setCell_other (fun h => by have := hownL.out.base h; simp at this) _).row
          · have h5 := hown.out
            rw [List.take_length] at h5
            exact (((h5.setCell_other (fun h => by have := h5.base h; simp at this) _).setCell_other (fun h => by have := h5.base h; simp at this) _).setCell_other (fun h => by have := h5.base h; simp at this) _).row

end Go.Proofs.Ytadekfjgdbngdaa
