/- The two laws, walked. -/
import Derived.Test.YtlpmpgocecmfbaaAlive
namespace Go.Proofs.Ytlpmpgocecmfbaa
open Go Go.RowKit

theorem Small.fit {locs : List LocD} {edges : List EdgeD} (h : Small locs edges) : Fit locs edges 20 := by
  obtain ⟨h1, h2, h3⟩ := h
  refine ⟨fun e he => h3 e he, by decide, by omega, by omega, ?_⟩
  have : locs.length * 20 + 2 ≤ 802 := by omega
  exact Nat.le_trans (Nat.mul_le_mul h1 this) (by decide)

set_option maxHeartbeats 2000000 in
theorem comes_any (aL aE : Option Addr) (cL cE : Nat) (p t : Int) (locs : List LocD) (edges : List EdgeD) (w : World) (hL : Row w 5 aL locs.length (locs.flatMap LocD.cells)) (hE : Row w 3 aE edges.length (edges.flatMap EdgeD.cells))
    (hl : locs.length ≤ maxLen) (hl' : edges.length ≤ maxLen) :
    Calls Try.prog 3 #[.agg #[.slice aL locs.length cL, .slice aE edges.length cE, .int .i64 p], .int .i64 t] w (Ret w (IsB True)) := by
  have HL := Lib.hid hL
  have HE := Lib.hid hE
  clear hL hE
  go_enter Try.func3, Try.ntmps3
  go_wp2_with fail
  have hb0 := below_a1 w (.cells #[.slice aL locs.length cL, .slice aE edges.length cE, .int .i64 p] 25)
  have k0 : Blk (w.alloc (.cells #[.slice aL locs.length cL, .slice aE edges.length cE, .int .i64 p] 25)) w.heap.size #[.slice aL locs.length cL, .slice aE edges.length cE, .int .i64 p] 25 := Blk.new rfl
  refine (small_any aL aE cL cE p locs edges _ (HE.out.ext hb0) hl hl').mono ?_
  rintro e w1 ⟨v, rfl, hb1, ok, rfl, hok⟩
  have k1 := k0.ext hb1
  have c0 := k1.cell 0
  have c1 := k1.cell 1
  have c2 := k1.cell 2
  simp only [List.getElem?_toArray, List.getElem?_cons_zero, List.getElem?_cons_succ] at c0 c1 c2
  have HB1 := Lib.hid (hb0.trans (hb1.mono hb0.size))
  have K1 := Lib.hid k1
  have Hok := Lib.hid hok
  clear hb0 hb1 k0 k1 hok
  cases ok
  · go_wp2_with fail
    refine (alive_any _).mono ?_
    rintro e w2 ⟨v, rfl, hb2, b, rfl, hbt⟩
    obtain rfl : b = true := hbt.2 trivial
    go_wp2
    go_ret
    exact ⟨_, rfl, HB1.out.trans (hb2.mono HB1.out.size), isB_true trivial⟩
  · have hs := Hok.out.1 rfl
    have HF := Lib.hid hs.fit
    have hle1 := hs.1
    have hle2 := hs.2.1
    clear hs
    go_wp2_with fail
    refine (of_any aL aE cL cE p locs edges _ (HL.out.ext HB1.out) (HE.out.ext HB1.out) (by omega) (by omega)).mono ?_
    rintro e w2 ⟨v, rfl, hb2, bL, dL, bE, dE, rfl, hL2, hE2⟩
    have HL2 := Lib.hid hL2
    have HE2 := Lib.hid hE2
    have HB2 := Lib.hid (HB1.out.trans (hb2.mono HB1.out.size))
    have K2 := Lib.hid (K1.out.ext hb2)
    clear hL2 hE2 hb2
    go_wp2_with fail
    refine (walkCome_any bL bE dL dE p t locs edges 20 _ HL2.out HE2.out HF.out).mono ?_
    rintro e w3 ⟨v, rfl, hb3, hr3⟩
    have k3 := K2.out.ext hb3
    have c0 := k3.cell 0
    have c1 := k3.cell 1
    have c2 := k3.cell 2
    simp only [List.getElem?_toArray, List.getElem?_cons_zero, List.getElem?_cons_succ] at c0 c1 c2
    have HB3 := Lib.hid (HB2.out.trans (hb3.mono HB2.out.size))
    have K3 := Lib.hid k3
    clear hb3 k3
    rcases hr3 with ⟨hno, rfl⟩ | ⟨hyes, x, rfl, l, hl, a1, c1, rfl, hown1, -⟩
    · have Hno := Lib.hid hno
      clear hno
      go_wp2_with fail
      refine (refCome_any aL aE cL cE p t locs edges _ (HL.out.ext HB3.out) (HE.out.ext HB3.out) ‹_› ‹_›).mono ?_
      rintro e w4 ⟨v, rfl, hb4, hr4⟩
      rcases hr4 with ⟨_, rfl⟩ | ⟨hyes, _⟩
      rotate_left
      · exact absurd hyes Hno.out
      have HB4 := Lib.hid (HB3.out.trans (hb4.mono HB3.out.size))
      clear hb4
      go_wp2_with fail
      refine (alive_any _).mono ?_
      rintro e w5 ⟨v, rfl, hb5, b, rfl, hbt⟩
      obtain rfl : b = true := hbt.2 trivial
      have HB5 := Lib.hid (HB4.out.trans (hb5.mono HB4.out.size))
      clear hb5 hbt
      go_wp2_with fail
      refine (ints_any none none 0 0 [] [] _ (Row.nil _ _ _) (Row.nil _ _ _) (by decide)).mono ?_
      rintro e w6 ⟨v, rfl, hb6, b, rfl, hbt⟩
      obtain rfl : b = true := hbt.2 rfl
      have HB6 := Lib.hid (HB5.out.trans (hb6.mono HB5.out.size))
      clear hb6 hbt
      go_wp2
      go_ret
      exact ⟨_, rfl, HB6.out, isB_true trivial⟩
    · have Hyes := Lib.hid hyes
      have hll := hl.len
      have Hl := Lib.hid hl
      have Hown1 := Lib.hid hown1
      clear hyes hl hown1
      go_wp2_with fail
      refine (refCome_any aL aE cL cE p t locs edges _ (HL.out.ext HB3.out) (HE.out.ext HB3.out) ‹_› ‹_›).mono ?_
      rintro e w4 ⟨v, rfl, hb4, hr4⟩
      rcases hr4 with ⟨hno, _⟩ | ⟨_, y, rfl, m, hm, a2, c2, rfl, hown2, -⟩
      · exact absurd Hyes.out hno
      obtain rfl := Hl.out.unique hm
      have HB4 := Lib.hid (HB3.out.trans (hb4.mono HB3.out.size))
      have Hown1 := Lib.hid (Hown1.out.ext hb4)
      have Hown2 := Lib.hid hown2
      clear hb4 hown2 hm
      go_wp2_with fail
      refine (alive_any _).mono ?_
      rintro e w5 ⟨v, rfl, hb5, b, rfl, hbt⟩
      obtain rfl : b = true := hbt.2 trivial
      have HB5 := Lib.hid (HB4.out.trans (hb5.mono HB4.out.size))
      have Hown1 := Lib.hid (Hown1.out.ext hb5)
      have Hown2 := Lib.hid (Hown2.out.ext hb5)
      clear hb5 hbt
      go_wp2_with fail
      have hi := ints_any a1 a2 c1 c2 l l w5 Hown1.out.row Hown2.out.row (by omega)
      rw [hll] at hi
      refine hi.mono ?_
      clear hi
      rintro e w6 ⟨v, rfl, hb6, b, rfl, hbt⟩
      obtain rfl : b = true := hbt.2 rfl
      have HB6 := Lib.hid (HB5.out.trans (hb6.mono HB5.out.size))
      clear hb6 hbt
      go_wp2
      go_ret
      exact ⟨_, rfl, HB6.out, isB_true trivial⟩

set_option maxHeartbeats 2000000 in
theorem escapesLaw_any (aL aE : Option Addr) (cL cE : Nat) (p : Int) (locs : List LocD) (edges : List EdgeD) (w : World) (hL : Row w 5 aL locs.length (locs.flatMap LocD.cells)) (hE : Row w 3 aE edges.length (edges.flatMap EdgeD.cells))
    (hl : locs.length ≤ maxLen) (hl' : edges.length ≤ maxLen) :
    Calls Try.prog 4 #[.agg #[.slice aL locs.length cL, .slice aE edges.length cE, .int .i64 p]] w (Ret w (IsB True)) := by
  have HL := Lib.hid hL
  have HE := Lib.hid hE
  clear hL hE
  go_enter Try.func4, Try.ntmps4
  go_wp2_with fail
  have hb0 := below_a1 w (.cells #[.slice aL locs.length cL, .slice aE edges.length cE, .int .i64 p] 25)
  have k0 : Blk (w.alloc (.cells #[.slice aL locs.length cL, .slice aE edges.length cE, .int .i64 p] 25)) w.heap.size #[.slice aL locs.length cL, .slice aE edges.length cE, .int .i64 p] 25 := Blk.new rfl
  refine (small_any aL aE cL cE p locs edges _ (HE.out.ext hb0) hl hl').mono ?_
  rintro e w1 ⟨v, rfl, hb1, ok, rfl, hok⟩
  have k1 := k0.ext hb1
  have c0 := k1.cell 0
  have c1 := k1.cell 1
  have c2 := k1.cell 2
  simp only [List.getElem?_toArray, List.getElem?_cons_zero, List.getElem?_cons_succ] at c0 c1 c2
  have HB1 := Lib.hid (hb0.trans (hb1.mono hb0.size))
  have K1 := Lib.hid k1
  have Hok := Lib.hid hok
  clear hb0 hb1 k0 k1 hok
  cases ok
  · go_wp2_with fail
    refine (alive_any _).mono ?_
    rintro e w2 ⟨v, rfl, hb2, b, rfl, hbt⟩
    obtain rfl : b = true := hbt.2 trivial
    go_wp2
    go_ret
    exact ⟨_, rfl, HB1.out.trans (hb2.mono HB1.out.size), isB_true trivial⟩
  · have hs := Hok.out.1 rfl
    have hC : ∃ C, RightG locs edges p → ComeAll edges locs.length C := by
      by_cases h : RightG locs edges p
      · obtain ⟨C, hC⟩ := comeAll_exists (n := locs.length) (D := 20) (edges := edges) (fun e he => by obtain ⟨i, hi⟩ := List.mem_iff_getElem?.1 he; exact h.edges i e hi) hs.2.2
        exact ⟨C, fun _ => hC⟩
      · exact ⟨fun _ => [], fun h' => absurd h' h⟩
    obtain ⟨C, hC⟩ := hC
    have HC := Lib.hid hC
    have HF := Lib.hid hs.fit
    have hle1 := hs.1
    have hle2 := hs.2.1
    clear hs hC
    go_wp2_with fail
    refine (of_any aL aE cL cE p locs edges _ (HL.out.ext HB1.out) (HE.out.ext HB1.out) (by omega) (by omega)).mono ?_
    rintro e w2 ⟨v, rfl, hb2, bL, dL, bE, dE, rfl, hL2, hE2⟩
    have HL2 := Lib.hid hL2
    have HE2 := Lib.hid hE2
    have HB2 := Lib.hid (HB1.out.trans (hb2.mono HB1.out.size))
    have K2 := Lib.hid (K1.out.ext hb2)
    clear hL2 hE2 hb2
    go_wp2_with fail
    refine (walkEscs_any bL bE dL dE p locs edges 20 C _ HL2.out HE2.out HF.out HC.out).mono ?_
    rintro e w3 ⟨v, rfl, hb3, hr3⟩
    have k3 := K2.out.ext hb3
    have c0 := k3.cell 0
    have c1 := k3.cell 1
    have c2 := k3.cell 2
    simp only [List.getElem?_toArray, List.getElem?_cons_zero, List.getElem?_cons_succ] at c0 c1 c2
    have HB3 := Lib.hid (HB2.out.trans (hb3.mono HB2.out.size))
    have K3 := Lib.hid k3
    clear hb3 k3
    rcases hr3 with ⟨hno, rfl⟩ | ⟨hyes, bs, x, hbs, rfl, a1, d1, rfl, hown1⟩
    · have Hno := Lib.hid hno
      clear hno
      go_wp2_with fail
      refine (refEscs_any aL aE cL cE p locs edges C _ (HL.out.ext HB3.out) (HE.out.ext HB3.out) HC.out (by omega) (by omega)).mono ?_
      rintro e w4 ⟨v, rfl, hb4, hr4⟩
      rcases hr4 with ⟨_, rfl⟩ | ⟨hyes, _⟩
      rotate_left
      · exact absurd hyes Hno.out
      have HB4 := Lib.hid (HB3.out.trans (hb4.mono HB3.out.size))
      have k4 := K3.out.ext hb4
      have c0 := k4.cell 0
      have c1 := k4.cell 1
      have c2 := k4.cell 2
      simp only [List.getElem?_toArray, List.getElem?_cons_zero, List.getElem?_cons_succ] at c0 c1 c2
      have K4 := Lib.hid k4
      clear hb4 k4
      go_wp2_with fail
      refine (of_any aL aE cL cE p locs edges _ (HL.out.ext HB4.out) (HE.out.ext HB4.out) (by omega) (by omega)).mono ?_
      rintro e w5 ⟨v, rfl, hb5, bL, dL, bE, dE, rfl, hL5, hE5⟩
      have HL5 := Lib.hid hL5
      have HE5 := Lib.hid hE5
      have HB5 := Lib.hid (HB4.out.trans (hb5.mono HB4.out.size))
      have K5 := Lib.hid (K4.out.ext hb5)
      clear hL5 hE5 hb5
      go_wp2_with fail
      refine (walkLeaks_any bL bE dL dE p locs edges 20 C _ HL5.out HE5.out HF.out HC.out).mono ?_
      rintro e w6 ⟨v, rfl, hb6, hr6⟩
      rcases hr6 with ⟨_, rfl⟩ | ⟨hyes, _⟩
      rotate_left
      · exact absurd hyes Hno.out
      have hS := below_a1 w6 (.cells #[.string { data := #[] }, .slice none 0 0, .slice none 0 0] 43)
      have kS : Blk (w6.alloc (.cells #[.string { data := #[] }, .slice none 0 0, .slice none 0 0] 43)) w6.heap.size #[.string { data := #[] }, .slice none 0 0, .slice none 0 0] 43 := Blk.new rfl
      have hb6s := hb6.trans (hS.mono hb6.size)
      have HB6 := Lib.hid (HB5.out.trans (hb6s.mono HB5.out.size))
      have k6 := K5.out.ext hb6s
      have c0 := k6.cell 0
      have c1 := k6.cell 1
      have c2 := k6.cell 2
      simp only [List.getElem?_toArray, List.getElem?_cons_zero, List.getElem?_cons_succ] at c0 c1 c2
      have KS := Lib.hid kS
      clear hb6 k6 hS kS hb6s
      go_wp2_with fail
      refine (refLeaks_any aL aE cL cE p locs edges C _ (HL.out.ext HB6.out) (HE.out.ext HB6.out) HC.out (by omega) (by omega)).mono ?_
      rintro e w7 ⟨v, rfl, hb7, hr7⟩
      rcases hr7 with ⟨_, rfl⟩ | ⟨hyes, _⟩
      rotate_left
      · exact absurd hyes Hno.out
      have hM := below_a1 w7 (.cells #[.string { data := #[] }, .slice none 0 0, .slice none 0 0] 46)
      have kM : Blk (w7.alloc (.cells #[.string { data := #[] }, .slice none 0 0, .slice none 0 0] 46)) w7.heap.size #[.string { data := #[] }, .slice none 0 0, .slice none 0 0] 46 := Blk.new rfl
      have hb7s := hb7.trans (hM.mono hb7.size)
      have HB7 := Lib.hid (HB6.out.trans (hb7s.mono HB6.out.size))
      have KS := Lib.hid (KS.out.ext hb7s)
      have KM := Lib.hid kM
      clear hb7 hM kM hb7s
      go_wp2_with fail
      refine (alive_any _).mono ?_
      rintro e w8 ⟨v, rfl, hb8, b, rfl, hbt⟩
      obtain rfl : b = true := hbt.2 trivial
      have HB8 := Lib.hid (HB7.out.trans (hb8.mono HB7.out.size))
      have KS := Lib.hid (KS.out.ext hb8)
      have KM := Lib.hid (KM.out.ext hb8)
      have s1 := KS.out.cell 1
      have s2 := KS.out.cell 2
      have m1 := KM.out.cell 1
      have m2 := KM.out.cell 2
      simp only [List.getElem?_toArray, List.getElem?_cons_zero, List.getElem?_cons_succ] at s1 s2 m1 m2
      clear hb8 hbt
      go_wp2_with fail
      refine (ints_any none none 0 0 [] [] _ (Row.nil _ _ _) (Row.nil _ _ _) (by decide)).mono ?_
      rintro e w9 ⟨v, rfl, hb9, b, rfl, hbt⟩
      obtain rfl : b = true := hbt.2 rfl
      have HB9 := Lib.hid (HB8.out.trans (hb9.mono HB8.out.size))
      have KS := Lib.hid (KS.out.ext hb9)
      have KM := Lib.hid (KM.out.ext hb9)
      have s1 := KS.out.cell 1
      have s2 := KS.out.cell 2
      have m1 := KM.out.cell 1
      have m2 := KM.out.cell 2
      simp only [List.getElem?_toArray, List.getElem?_cons_zero, List.getElem?_cons_succ] at s1 s2 m1 m2
      clear hb9 hbt
      go_wp2_with fail
      refine (ints_any none none 0 0 [] [] _ (Row.nil _ _ _) (Row.nil _ _ _) (by decide)).mono ?_
      rintro e w10 ⟨v, rfl, hb10, b, rfl, hbt⟩
      obtain rfl : b = true := hbt.2 rfl
      have HB10 := Lib.hid (HB9.out.trans (hb10.mono HB9.out.size))
      have KS := Lib.hid (KS.out.ext hb10)
      have KM := Lib.hid (KM.out.ext hb10)
      have s1 := KS.out.cell 1
      have s2 := KS.out.cell 2
      have m1 := KM.out.cell 1
      have m2 := KM.out.cell 2
      simp only [List.getElem?_toArray, List.getElem?_cons_zero, List.getElem?_cons_succ] at s1 s2 m1 m2
      clear hb10 hbt
      go_wp2_with fail
      refine (ints_any none none 0 0 [] [] _ (Row.nil _ _ _) (Row.nil _ _ _) (by decide)).mono ?_
      rintro e w11 ⟨v, rfl, hb11, b, rfl, hbt⟩
      obtain rfl : b = true := hbt.2 rfl
      have HB11 := Lib.hid (HB10.out.trans (hb11.mono HB10.out.size))
      clear hb11 hbt
      go_wp2
      go_ret
      exact ⟨_, rfl, HB11.out, isB_true trivial⟩
    · have Hyes := Lib.hid hyes
      have HIs := Lib.hid hbs
      have Hown1 := Lib.hid hown1
      clear hyes hbs hown1
      go_wp2_with fail
      refine (refEscs_any aL aE cL cE p locs edges C _ (HL.out.ext HB3.out) (HE.out.ext HB3.out) HC.out (by omega) (by omega)).mono ?_
      rintro e w4 ⟨v, rfl, hb4, hr4⟩
      rcases hr4 with ⟨hno, _⟩ | ⟨_, bs2, y, hbs2, rfl, a2, d2, rfl, hown2⟩
      · exact absurd Hyes.out hno
      obtain rfl := HIs.out.unique hbs2
      have Hown1 := Lib.hid (Hown1.out.ext hb4)
      have Hown2 := Lib.hid hown2
      clear hown2 hbs2
      have HB4 := Lib.hid (HB3.out.trans (hb4.mono HB3.out.size))
      have k4 := K3.out.ext hb4
      have c0 := k4.cell 0
      have c1 := k4.cell 1
      have c2 := k4.cell 2
      simp only [List.getElem?_toArray, List.getElem?_cons_zero, List.getElem?_cons_succ] at c0 c1 c2
      have K4 := Lib.hid k4
      clear hb4 k4
      go_wp2_with fail
      refine (of_any aL aE cL cE p locs edges _ (HL.out.ext HB4.out) (HE.out.ext HB4.out) (by omega) (by omega)).mono ?_
      rintro e w5 ⟨v, rfl, hb5, bL, dL, bE, dE, rfl, hL5, hE5⟩
      have HL5 := Lib.hid hL5
      have HE5 := Lib.hid hE5
      have HB5 := Lib.hid (HB4.out.trans (hb5.mono HB4.out.size))
      have K5 := Lib.hid (K4.out.ext hb5)
      have Hown1 := Lib.hid (Hown1.out.ext hb5)
      have Hown2 := Lib.hid (Hown2.out.ext hb5)
      clear hL5 hE5 hb5
      go_wp2_with fail
      refine (walkLeaks_any bL bE dL dE p locs edges 20 C _ HL5.out HE5.out HF.out HC.out).mono ?_
      rintro e w6 ⟨v, rfl, hb6, hr6⟩
      rcases hr6 with ⟨hno, _⟩ | ⟨_, bs2, h3, r4, hbs2, rfl, ⟨a3, d3, rfl, hown3⟩, a4, d4, rfl, hown4⟩
      · exact absurd Hyes.out hno
      obtain rfl := HIs.out.unique hbs2
      clear hbs2
      have hS := below_a1 w6 (.cells #[.string { data := #[] }, .slice a3 (heapsOf C bs locs.length p.toNat).length d3, .slice a4 (resultsOf C p.toNat).length d4] 43)
      have kS : Blk (w6.alloc (.cells #[.string { data := #[] }, .slice a3 (heapsOf C bs locs.length p.toNat).length d3, .slice a4 (resultsOf C p.toNat).length d4] 43)) w6.heap.size #[.string { data := #[] }, .slice a3 (heapsOf C bs locs.length p.toNat).length d3, .slice a4 (resultsOf C p.toNat).length d4] 43 := Blk.new rfl
      have hb6s := hb6.trans (hS.mono hb6.size)
      have HB6 := Lib.hid (HB5.out.trans (hb6s.mono HB5.out.size))
      have k6 := K5.out.ext hb6s
      have c0 := k6.cell 0
      have c1 := k6.cell 1
      have c2 := k6.cell 2
      simp only [List.getElem?_toArray, List.getElem?_cons_zero, List.getElem?_cons_succ] at c0 c1 c2
      have KS := Lib.hid kS
      have Hown1 := Lib.hid (Hown1.out.ext hb6s)
      have Hown2 := Lib.hid (Hown2.out.ext hb6s)
      have Hown3 := Lib.hid (hown3.ext hS)
      have Hown4 := Lib.hid (hown4.ext hS)
      clear hown3 hown4
      clear hb6 k6 hS kS hb6s
      go_wp2_with fail
      refine (refLeaks_any aL aE cL cE p locs edges C _ (HL.out.ext HB6.out) (HE.out.ext HB6.out) HC.out (by omega) (by omega)).mono ?_
      rintro e w7 ⟨v, rfl, hb7, hr7⟩
      rcases hr7 with ⟨hno, _⟩ | ⟨_, bs2, h3, r4, hbs2, rfl, ⟨a5, d5, rfl, hown5⟩, a6, d6, rfl, hown6⟩
      · exact absurd Hyes.out hno
      obtain rfl := HIs.out.unique hbs2
      clear hbs2
      have hM := below_a1 w7 (.cells #[.string { data := #[] }, .slice a5 (heapsOf C bs locs.length p.toNat).length d5, .slice a6 (resultsOf C p.toNat).length d6] 46)
      have kM : Blk (w7.alloc (.cells #[.string { data := #[] }, .slice a5 (heapsOf C bs locs.length p.toNat).length d5, .slice a6 (resultsOf C p.toNat).length d6] 46)) w7.heap.size #[.string { data := #[] }, .slice a5 (heapsOf C bs locs.length p.toNat).length d5, .slice a6 (resultsOf C p.toNat).length d6] 46 := Blk.new rfl
      have hb7s := hb7.trans (hM.mono hb7.size)
      have HB7 := Lib.hid (HB6.out.trans (hb7s.mono HB6.out.size))
      have KS := Lib.hid (KS.out.ext hb7s)
      have KM := Lib.hid kM
      have Hown1 := Lib.hid (Hown1.out.ext hb7s)
      have Hown2 := Lib.hid (Hown2.out.ext hb7s)
      have Hown3 := Lib.hid (Hown3.out.ext hb7s)
      have Hown4 := Lib.hid (Hown4.out.ext hb7s)
      have Hown5 := Lib.hid (hown5.ext hM)
      have Hown6 := Lib.hid (hown6.ext hM)
      clear hown5 hown6
      clear hb7 hM kM hb7s
      go_wp2_with fail
      refine (alive_any _).mono ?_
      rintro e w8 ⟨v, rfl, hb8, b, rfl, hbt⟩
      obtain rfl : b = true := hbt.2 trivial
      have HB8 := Lib.hid (HB7.out.trans (hb8.mono HB7.out.size))
      have KS := Lib.hid (KS.out.ext hb8)
      have KM := Lib.hid (KM.out.ext hb8)
      have s1 := KS.out.cell 1
      have s2 := KS.out.cell 2
      have m1 := KM.out.cell 1
      have m2 := KM.out.cell 2
      simp only [List.getElem?_toArray, List.getElem?_cons_zero, List.getElem?_cons_succ] at s1 s2 m1 m2
      have Hown1 := Lib.hid (Hown1.out.ext hb8)
      have Hown2 := Lib.hid (Hown2.out.ext hb8)
      have Hown3 := Lib.hid (Hown3.out.ext hb8)
      have Hown4 := Lib.hid (Hown4.out.ext hb8)
      have Hown5 := Lib.hid (Hown5.out.ext hb8)
      have Hown6 := Lib.hid (Hown6.out.ext hb8)
      clear hb8 hbt
      go_wp2_with fail
      refine (ints_any a1 a2 d1 d2 (trues bs bs.length) (trues bs bs.length) _ Hown1.out.row Hown2.out.row (by have := trues_len bs bs.length; have := HIs.out.1; omega)).mono ?_
      rintro e w9 ⟨v, rfl, hb9, b, rfl, hbt⟩
      obtain rfl : b = true := hbt.2 rfl
      have HB9 := Lib.hid (HB8.out.trans (hb9.mono HB8.out.size))
      have KS := Lib.hid (KS.out.ext hb9)
      have KM := Lib.hid (KM.out.ext hb9)
      have s1 := KS.out.cell 1
      have s2 := KS.out.cell 2
      have m1 := KM.out.cell 1
      have m2 := KM.out.cell 2
      simp only [List.getElem?_toArray, List.getElem?_cons_zero, List.getElem?_cons_succ] at s1 s2 m1 m2
      have Hown3 := Lib.hid (Hown3.out.ext hb9)
      have Hown4 := Lib.hid (Hown4.out.ext hb9)
      have Hown5 := Lib.hid (Hown5.out.ext hb9)
      have Hown6 := Lib.hid (Hown6.out.ext hb9)
      clear hb9 hbt
      go_wp2_with fail
      refine (ints_any a3 a5 d3 d5 (heapsOf C bs locs.length p.toNat) (heapsOf C bs locs.length p.toNat) _ Hown3.out.row Hown5.out.row (by rw [heapsOf_len]; have := Hyes.out.pn; omega)).mono ?_
      rintro e w10 ⟨v, rfl, hb10, b, rfl, hbt⟩
      obtain rfl : b = true := hbt.2 rfl
      have HB10 := Lib.hid (HB9.out.trans (hb10.mono HB9.out.size))
      have KS := Lib.hid (KS.out.ext hb10)
      have KM := Lib.hid (KM.out.ext hb10)
      have s1 := KS.out.cell 1
      have s2 := KS.out.cell 2
      have m1 := KM.out.cell 1
      have m2 := KM.out.cell 2
      simp only [List.getElem?_toArray, List.getElem?_cons_zero, List.getElem?_cons_succ] at s1 s2 m1 m2
      have Hown4 := Lib.hid (Hown4.out.ext hb10)
      have Hown6 := Lib.hid (Hown6.out.ext hb10)
      clear hb10 hbt
      go_wp2_with fail
      refine (ints_any a4 a6 d4 d6 (resultsOf C p.toNat) (resultsOf C p.toNat) _ Hown4.out.row Hown6.out.row (by rw [resultsOf_len]; have := Hyes.out.pn; omega)).mono ?_
      rintro e w11 ⟨v, rfl, hb11, b, rfl, hbt⟩
      obtain rfl : b = true := hbt.2 rfl
      have HB11 := Lib.hid (HB10.out.trans (hb11.mono HB10.out.size))
      clear hb11 hbt
      go_wp2
      go_ret
      exact ⟨_, rfl, HB11.out, isB_true trivial⟩
end Go.Proofs.Ytlpmpgocecmfbaa
