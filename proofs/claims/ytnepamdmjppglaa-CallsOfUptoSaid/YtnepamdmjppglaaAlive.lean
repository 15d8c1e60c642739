/- The live question, walked. -/
import Derived.Test.YtnepamdmjppglaaAlPl
namespace Go.Proofs.Ytnepamdmjppglaa
open Go Go.RowKit

theorem three {α : Type} {l : List α} (h : l.length = 3) : ∃ x y z, l = [x, y, z] := by
  match l, h with
  | [x, y, z], _ => exact ⟨x, y, z, rfl⟩

set_option maxHeartbeats 4000000 in
set_option maxRecDepth 20000 in
theorem alive_any (w : World) : Calls Try.prog 8 #[] w (Ret w fun v _ => v = .bool true) := by
  go_enter Try.func8, Try.ntmps8
  go_wp2_with fail
  obtain ⟨w4, hw4⟩ : ∃ w4, w4 = (((w.alloc (.cells #[.string ⟨#[98]⟩, .string ⟨#[120]⟩] 9)).alloc (.cells #[.string ⟨#[99]⟩] 9)).alloc (.cells #[.string ⟨#[98]⟩] 9)).alloc (.cells #[.string ⟨#[97]⟩, .slice (some ⟨w.heap.size, 0, none⟩) 2 2, .string ⟨#[98]⟩, .slice (some ⟨w.heap.size + 1, 0, none⟩) 1 1, .string ⟨#[99]⟩, .slice (some ⟨w.heap.size + 1 + 1, 0, none⟩) 1 1, .string ⟨#[100]⟩, .slice none 0 0] 49) := ⟨_, rfl⟩
  have hN : NodesAt w4 (some ⟨w.heap.size + 1 + 1 + 1, 0, none⟩) (four (some ⟨w.heap.size, 0, none⟩) (some ⟨w.heap.size + 1, 0, none⟩) (some ⟨w.heap.size + 1 + 1, 0, none⟩) none 2 1 1 0) := by
    have b1 : Blk w4 w.heap.size #[.string ⟨#[98]⟩, .string ⟨#[120]⟩] 9 := by rw [hw4]; exact (((Blk.new rfl).alloc _).alloc _).alloc _
    have b2 : Blk w4 (w.heap.size + 1) #[.string ⟨#[99]⟩] 9 := by rw [hw4]; exact ((Blk.new (by simp)).alloc _).alloc _
    have b3 : Blk w4 (w.heap.size + 1 + 1) #[.string ⟨#[98]⟩] 9 := by rw [hw4]; exact (Blk.new (by simp)).alloc _
    have b4 : Blk w4 (w.heap.size + 1 + 1 + 1) #[.string ⟨#[97]⟩, .slice (some ⟨w.heap.size, 0, none⟩) 2 2, .string ⟨#[98]⟩, .slice (some ⟨w.heap.size + 1, 0, none⟩) 1 1, .string ⟨#[99]⟩, .slice (some ⟨w.heap.size + 1 + 1, 0, none⟩) 1 1, .string ⟨#[100]⟩, .slice none 0 0] 49 := by rw [hw4]; exact Blk.new (by simp)
    refine ⟨⟨rfl, fun _ => ⟨_, 0, rfl, fun j hj => ?_⟩⟩, fun d hd => ?_⟩
    · rw [Nat.zero_add, b4.cell j, ← Array.getElem?_toList]; rfl
    · simp only [four, List.mem_cons, List.not_mem_nil, or_false] at hd
      rcases hd with rfl | rfl | rfl | rfl
      · exact ⟨rfl, fun _ => ⟨_, 0, rfl, fun j hj => by rw [Nat.zero_add, b1.cell j, ← Array.getElem?_toList]; rfl⟩⟩
      · exact ⟨rfl, fun _ => ⟨_, 0, rfl, fun j hj => by rw [Nat.zero_add, b2.cell j, ← Array.getElem?_toList]; rfl⟩⟩
      · exact ⟨rfl, fun _ => ⟨_, 0, rfl, fun j hj => by rw [Nat.zero_add, b3.cell j, ← Array.getElem?_toList]; rfl⟩⟩
      · exact Row.nil _ _ _
  have hb4 : Below w.heap.size w w4 := by rw [hw4]; exact (((below_a1 w _).alloc (by simp) _).alloc (by simp; omega) _).alloc (by simp; omega) _
  rw [← hw4]
  clear hw4
  have hS : SmallN (four (some ⟨w.heap.size, 0, none⟩) (some ⟨w.heap.size + 1, 0, none⟩) (some ⟨w.heap.size + 1 + 1, 0, none⟩) none 2 1 1 0) := by
    refine ⟨by show (4 : Nat) ≤ 1048576; decide, by show (4 : Nat) ≤ 1048576; decide, fun d hd => ?_, fun d hd c hc => ?_⟩
    · simp only [four, List.mem_cons, List.not_mem_nil, or_false] at hd
      rcases hd with rfl | rfl | rfl | rfl <;> (show (1 : Nat) ≤ 1048576; decide)
    · simp only [four, List.mem_cons, List.not_mem_nil, or_false] at hd
      rcases hd with rfl | rfl | rfl | rfl <;> simp only [List.mem_cons, List.not_mem_nil, or_false] at hc
      · rcases hc with rfl | rfl <;> decide
      · subst hc; decide
      · subst hc; decide
  obtain ⟨l4, hl4⟩ : ∃ l4, l4 = four (some ⟨w.heap.size, 0, none⟩) (some ⟨w.heap.size + 1, 0, none⟩) (some ⟨w.heap.size + 1 + 1, 0, none⟩) none 2 1 1 0 := ⟨_, rfl⟩
  obtain ⟨la, hla⟩ : ∃ la : Option Addr, la = some ⟨w.heap.size + 1 + 1 + 1, 0, none⟩ := ⟨_, rfl⟩
  have hll : l4.length = 4 := by rw [hl4]; rfl
  rw [← hl4, ← hla] at hN
  rw [← hl4] at hS
  rw [← hla]
  have HL4 := Lib.hid hl4
  have HN := Lib.hid hN
  have HS := Lib.hid hS
  have HB4 := Lib.hid hb4
  have hg := groups_any la 4 l4 w4 hN hS
  rw [hll] at hg
  have Hll := Lib.hid hll
  clear hla hl4 hN hS hb4 hll
  refine hg.mono ?_
  clear hg
  rintro e w5 ⟨_, rfl, hb5, gs, ag, cg, rfl, hog, hrows, -, -, hseq, hall⟩
  have hgs : gs.map RowD.l = [[nB, nC], [nA], [nD]] := by rw [HL4.out] at hseq hall; exact four_groups hseq hall
  have hlen : gs.length = 3 := by have := congrArg List.length hgs; simpa using this
  obtain ⟨r1, r2, r3, rfl⟩ := three hlen
  simp only [List.map_cons, List.map_nil, List.cons.injEq, and_true] at hgs
  obtain ⟨e1, e2, e3⟩ := hgs
  have hrow := hog.row
  obtain ⟨gb, go, hga, hgc⟩ := hrow.2 (by simp)
  have h1 := hrows r1 (by simp)
  have h2 := hrows r2 (by simp)
  have h3 := hrows r3 (by simp)
  rw [e1] at h1
  rw [e2] at h2
  rw [e3] at h3
  obtain ⟨x1, o1, a1, c1⟩ := str_at h1 (i := 0) rfl
  obtain ⟨x2, o2, a2, c2⟩ := str_at h2 (i := 0) rfl
  obtain ⟨x3, o3, a3, c3⟩ := str_at h3 (i := 0) rfl
  have v1 : r1.val = .slice (some ⟨x1, o1, none⟩) 2 r1.c := by unfold RowD.val; rw [a1, e1]; rfl
  have v2 : r2.val = .slice (some ⟨x2, o2, none⟩) 1 r2.c := by unfold RowD.val; rw [a2, e2]; rfl
  have v3 : r3.val = .slice (some ⟨x3, o3, none⟩) 1 r3.c := by unfold RowD.val; rw [a3, e3]; rfl
  have g0 : w5.cell? ⟨gb, go, none⟩ = some (.slice (some ⟨x1, o1, none⟩) 2 r1.c) := by have := hgc 0 (by simp); rw [← v1]; simp
  have g1 : w5.cell? ⟨gb, go + 1, none⟩ = some (.slice (some ⟨x2, o2, none⟩) 1 r2.c) := by have := hgc 1 (by simp); rw [← v2]; simp
  have g2 : w5.cell? ⟨gb, go + 2, none⟩ = some (.slice (some ⟨x3, o3, none⟩) 1 r3.c) := by have := hgc 2 (by simp); rw [← v3]; simp
  have c1' : w5.cell? ⟨x1, o1, none⟩ = some (.string ⟨#[98]⟩) := by simpa [nB] using c1
  have c2' : w5.cell? ⟨x2, o2, none⟩ = some (.string ⟨#[97]⟩) := by simpa [nA] using c2
  have c3' : w5.cell? ⟨x3, o3, none⟩ = some (.string ⟨#[100]⟩) := by simpa [nD] using c3
  subst hga
  have HF := Lib.hid (And.intro g0 (And.intro g1 (And.intro g2 (And.intro c1' (And.intro c2' c3')))))
  have HB5 := Lib.hid (HB4.out.trans (hb5.mono HB4.out.size))
  have HN5 := Lib.hid (HN.out.ext hb5)
  clear hb5 hog hrows hseq hall hlen e1 e2 e3 hrow hgc h1 h2 h3 a1 a2 a3 c1 c2 c3 v1 v2 v3 g0 g1 g2 c1' c2' c3'
  have hu := users_any la (some ⟨w5.heap.size, 0, none⟩) 4 1 l4 [nC] (w5.alloc (.cells #[.string ⟨#[99]⟩] 9)) (HN5.out.ext (below_a1 _ _)) HS.out (Row.new1 rfl rfl rfl) (by simp) (by simp; unfold maxLen; decide)
  rw [Hll.out] at hu
  go_wp2_with fail
  refine hu.mono ?_
  clear hu
  rintro e w6 ⟨_, rfl, hb6, us, au, cu, rfl, hou, hur, -, hum⟩
  have hus : us = [nA, nB, nC] := by rw [HL4.out] at hum; exact four_users hur hum
  subst hus
  have hbb : Below w5.heap.size w5 w6 := (below_a1 w5 (.cells #[.string ⟨#[99]⟩] 9)).trans (hb6.mono (by simp))
  have HB6 := Lib.hid (HB5.out.trans (hbb.mono HB5.out.size))
  have HN6 := Lib.hid (HN5.out.ext hbb)
  obtain ⟨k0, k1, k2, k3, k4, k5⟩ := HF.out
  have g0 := below_ext hbb k0
  have g1 := below_ext hbb k1
  have g2 := below_ext hbb k2
  have c1 := below_ext hbb k3
  have c2 := below_ext hbb k4
  have c3 := below_ext hbb k5
  have hr1 := round_any la 4 l4 nC w6 HN6.out HS.out (by unfold maxLen; decide)
  rw [Hll.out] at hr1
  have Hr1 := Lib.hid hr1
  clear hb6 hou hur hum hbb k0 k1 k2 k3 k4 k5 hr1 HF
  go_wp2_with fail
  refine Hr1.out.mono ?_
  clear Hr1
  rintro e w7 ⟨_, rfl, hb7, bC, rfl, hbC⟩
  obtain rfl : bC = true := hbC.2 (by rw [HL4.out]; exact four_roundC)
  have HB7 := Lib.hid (HB6.out.trans (hb7.mono HB6.out.size))
  have hr2 := round_any la 4 l4 nA w7 (HN6.out.ext hb7) HS.out (by unfold maxLen; decide)
  rw [Hll.out] at hr2
  have Hr2 := Lib.hid hr2
  clear hb7 hbC hr2 g0 g1 g2 c1 c2 c3
  go_wp2_with fail
  refine Hr2.out.mono ?_
  clear Hr2
  rintro e w8 ⟨_, rfl, hb8, bA, rfl, hbA⟩
  obtain rfl : bA = false := by
    cases bA with
    | false => rfl
    | true => exact absurd (by rw [← HL4.out]; exact hbA.1 rfl) (four_roundA (a1 := some ⟨w.heap.size, 0, none⟩) (a2 := some ⟨w.heap.size + 1, 0, none⟩) (a3 := some ⟨w.heap.size + 1 + 1, 0, none⟩) (a4 := none) (c1 := 2) (c2 := 1) (c3 := 1) (c4 := 0))
  have HB8 := Lib.hid (HB7.out.trans (hb8.mono HB7.out.size))
  have hof := of_leaf [102] w8
  have Hof := Lib.hid hof
  clear hb8 hbA hof
  go_wp2_with fail
  refine Hof.out.mono ?_
  clear Hof
  rintro e w9 ⟨_, rfl, hb9, ao, co, rfl⟩
  go_wp2
  go_ret
  exact ⟨_, rfl, HB8.out.trans (hb9.mono HB8.out.size), rfl⟩
end Go.Proofs.Ytnepamdmjppglaa
