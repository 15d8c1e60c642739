/- The program's Come, walked. -/
import Derived.Test.YtlpmpgocecmfbaaCome
namespace Go.Proofs.Ytlpmpgocecmfbaa
open Go Go.RowKit

/-- a graph that is small enough to be gone through -/
structure Fit (locs : List LocD) (edges : List EdgeD) (D : Nat) : Prop where
  deref : ∀ e ∈ edges, e.deref ≤ D
  d : D ≤ 1048576
  l : locs.length ≤ 1048576
  e : edges.length ≤ 1048576
  m : locs.length * (locs.length * D + 2) ≤ 1099511627776

set_option maxHeartbeats 1000000 in
theorem walkCome_any (aL aE : Option Addr) (cL cE : Nat) (p to : Int) (locs : List LocD) (edges : List EdgeD) (D : Nat) (w : World) (hL : Row w 5 aL locs.length (locs.flatMap LocD.cells)) (hE : Row w 3 aE edges.length (edges.flatMap EdgeD.cells))
    (hf : Fit locs edges D) :
    Calls Try.prog 10 #[.agg #[.slice aL locs.length cL, .slice aE edges.length cE, .int .i64 p], .int .i64 to] w (Ret w (ComeR w.heap.size locs edges p to)) := by
  have hlt := hf.l
  have HF := Lib.hid hf
  go_enter Try.func10, Try.ntmps10
  go_wp2_with fail
  refine (made_any aL aE cL cE p locs edges _ (hL.ext (below_a1 _ _)) (hE.ext (below_a1 _ _)) hf.l hf.e).mono ?_
  rintro e w1 ⟨v, rfl, hb1, hr⟩
  have k0 : Blk w1 w.heap.size #[.slice aL locs.length cL, .slice aE edges.length cE, .int .i64 p] 35 := (Blk.new rfl).ext hb1
  have Hb1 := Lib.hid ((below_a1 _ _).trans (hb1.mono (by simp)))
  have c0 := k0.cell 0
  simp only [List.getElem?_toArray, List.getElem?_cons_zero] at c0
  clear hb1 k0 hL hE hf
  rcases hr with ⟨hnr, rfl⟩ | ⟨hR, gx, rfl, hG⟩
  · have Hnr := Lib.hid hnr
    clear hnr
    go_wp2
    go_ret2
    exact ⟨_, rfl, Hb1.out, .inl ⟨fun h => Hnr.out h.1, rfl⟩⟩
  · have HR := Lib.hid hR
    have HG := Lib.hid hG
    clear hR hG
    by_cases hto : 0 ≤ to ∧ to < locs.length
    · obtain ⟨ht0, ht1⟩ := hto
      obtain ⟨t, rfl⟩ := Int.eq_ofNat_of_zero_le ht0
      have f1 : decide ((t : Int) < 0) = false := by simp
      have f2 : decide ((locs.length : Int) ≤ (t : Int)) = false := by simp; omega
      go_wp2_with fail
      refine (come_any gx t D p locs edges _ HG.out HR.out (by omega) HF.out.deref HF.out.m HF.out.d HF.out.e).mono ?_
      rintro e w2 ⟨v, rfl, hb2, l, hl, a, cap, rfl, hown, haddr⟩
      have Hb2 := Lib.hid (Hb1.out.trans (hb2.mono Hb1.out.size))
      have Ho := Lib.hid (hown.mono (base' := w.heap.size) Hb1.out.size)
      have Hl := Lib.hid hl
      have Ha := Lib.hid haddr
      clear hb2 hown hl haddr
      go_wp2
      go_ret2
      exact ⟨_, rfl, Hb2.out, .inr ⟨⟨HR.out, ht0, ht1⟩, .slice a l.length cap, rfl, l, by rw [Int.toNat_natCast]; exact Hl.out, a, cap, rfl, Ho.out, Ha.out⟩⟩
    · have Hto := Lib.hid hto
      by_cases h0 : to < 0
      · clear hto
        go_wp2
        go_ret2
        exact ⟨_, rfl, Hb1.out, .inl ⟨fun h => Hto.out h.2, rfl⟩⟩
      · have f1 : decide (to < 0) = false := by simp; omega
        have f2 : decide ((locs.length : Int) ≤ to) = true := by simp; omega
        clear hto
        go_wp2
        go_ret2
        exact ⟨_, rfl, Hb1.out, .inl ⟨fun h => Hto.out h.2, rfl⟩⟩

end Go.Proofs.Ytlpmpgocecmfbaa
