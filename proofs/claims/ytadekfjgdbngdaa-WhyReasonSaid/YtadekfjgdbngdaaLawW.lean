/- WhyWay, walked. -/
import Derived.Test.YtadekfjgdbngdaaAliveY
import Derived.Test.YtadekfjgdbngdaaOf
namespace Go.Proofs.Ytadekfjgdbngdaa
open Go Go.RowKit

theorem Small.fit {locs : List LocD} {edges : List EdgeD} (h : Small locs edges) : Fit locs edges 20 := by
  obtain ⟨h1, h2, h3⟩ := h
  refine ⟨fun e he => h3 e he, by decide, by omega, by omega, ?_⟩
  have : locs.length * 20 + 2 ≤ 802 := by omega
  exact Nat.le_trans (Nat.mul_le_mul h1 this) (by decide)

set_option maxRecDepth 20000 in
set_option maxHeartbeats 4000000 in
theorem whyWay_any (aL aE : Option Addr) (cL cE : Nat) (p t : Int) (locs : List LocD) (edges : List EdgeD) (w : World) (hL : Row w 5 aL locs.length (locs.flatMap LocD.cells)) (hE : Row w 3 aE edges.length (edges.flatMap EdgeD.cells))
    (hl : locs.length ≤ maxLen) (hl' : edges.length ≤ maxLen) :
    Calls Try.prog 3 #[.agg #[.slice aL locs.length cL, .slice aE edges.length cE, .int .i64 p], .int .i64 t] w (Ret w (IsB True)) := by
  have HL := Lib.hid hL
  have HE := Lib.hid hE
  clear hL hE
  go_enter Try.func3, Try.ntmps3
  go_wp2_with fail
  have hb0 := below_a1 w (.cells #[.slice aL locs.length cL, .slice aE edges.length cE, .int .i64 p] 25)
  have k0 : Blk (w.alloc (.cells #[.slice aL locs.length cL, .slice aE edges.length cE, .int .i64 p] 25)) w.heap.size #[.slice aL locs.length cL, .slice aE edges.length cE, .int .i64 p] 25 := Blk.new rfl
  refine (small_any aL aE cL cE p locs edges _ (HE.out.ext hb0) hl hl').mono ?_
  rintro e w1 ⟨v, rfl, hb1, ok, rfl, hok⟩
  have k1 := k0.ext hb1
  have c0 := k1.cell 0
  have c1 := k1.cell 1
  have c2 := k1.cell 2
  simp only [List.getElem?_toArray, List.getElem?_cons_zero, List.getElem?_cons_succ] at c0 c1 c2
  have HB1 := Lib.hid (hb0.trans (hb1.mono hb0.size))
  have K1 := Lib.hid k1
  have Hok := Lib.hid hok
  clear hb0 hb1 k0 k1 hok
  cases ok
  · go_wp2_with fail
    refine (alive_any _).mono ?_
    rintro e w2 ⟨v, rfl, hb2, b, rfl, hbt⟩
    obtain rfl : b = true := hbt.2 trivial
    go_wp2
    go_ret
    exact ⟨_, rfl, HB1.out.trans (hb2.mono HB1.out.size), isB_true trivial⟩
  · have hs := Hok.out.1 rfl
    have HF := Lib.hid hs.fit
    have hle1 := hs.1
    have hle2 := hs.2.1
    clear hs
    obtain ⟨C, HC⟩ : ∃ C, Hid (RightG locs edges p → ComeAll edges locs.length C) := by
      by_cases hR : RightG locs edges p
      · obtain ⟨C, hC⟩ := comeAll_exists (n := locs.length) (fun e he => by obtain ⟨j, hj, rfl⟩ := List.getElem_of_mem he; exact hR.edges j _ (List.getElem?_eq_getElem hj)) HF.out.deref
        exact ⟨C, fun _ => hC⟩
      · exact ⟨fun _ => [], fun h => absurd h hR⟩
    go_wp2_with fail
    refine (of_any aL aE cL cE p locs edges _ (HL.out.ext HB1.out) (HE.out.ext HB1.out) (by omega) (by omega)).mono ?_
    rintro e w2 ⟨v, rfl, hb2, bL, dL, bE, dE, rfl, hL2, hE2⟩
    have HL2 := Lib.hid hL2
    have HE2 := Lib.hid hE2
    have HB2 := Lib.hid (HB1.out.trans (hb2.mono HB1.out.size))
    have K2 := Lib.hid (K1.out.ext hb2)
    clear hL2 hE2 hb2
    go_wp2_with fail
    refine (way_any bL bE dL dE p t locs edges 20 C _ HL2.out HE2.out HF.out HC.out).mono ?_
    rintro e w3 ⟨v, rfl, hb3, hr3⟩
    have k3 := K2.out.ext hb3
    have c0 := k3.cell 0
    have c1 := k3.cell 1
    have c2 := k3.cell 2
    simp only [List.getElem?_toArray, List.getElem?_cons_zero, List.getElem?_cons_succ] at c0 c1 c2
    have HB3 := Lib.hid (HB2.out.trans (hb3.mono HB2.out.size))
    clear hb3 k3
    have fin : ∀ (w4 : World) (a1 a2 : Option Addr) (c1 c2 : Nat) (l : List Int), Below w.heap.size w w4 → Row w4 1 a1 l.length (l.map (Value.int .i64)) → Row w4 1 a2 l.length (l.map (Value.int .i64)) → l.length ≤ 1099511627776 → True := fun _ _ _ _ _ _ _ _ _ _ => trivial
    clear fin
    rcases hr3 with ⟨hno, rfl⟩ | ⟨hR, tn, rfl, htn, bs, hbs, hcase⟩
    · have Hno := Lib.hid hno
      clear hno
      go_wp2_with fail
      refine (refWay_any aL aE cL cE p t locs edges 20 C _ (HL.out.ext HB3.out) (HE.out.ext HB3.out) HF.out HC.out).mono ?_
      rintro e w4 ⟨v, rfl, hb4, hr4⟩
      rcases hr4 with ⟨_, rfl⟩ | ⟨hR, tn, rfl, htn, _⟩
      rotate_left
      · exact absurd ⟨hR, by omega, by omega⟩ Hno.out
      have HB4 := Lib.hid (HB3.out.trans (hb4.mono HB3.out.size))
      clear hb4
      go_wp2_with fail
      refine (alive_any _).mono ?_
      rintro e w5 ⟨v, rfl, hb5, b, rfl, hbt⟩
      obtain rfl : b = true := hbt.2 trivial
      have HB5 := Lib.hid (HB4.out.trans (hb5.mono HB4.out.size))
      clear hb5 hbt
      go_wp2_with fail
      refine (ints_any none none 0 0 [] [] _ (Row.nil _ _ _) (Row.nil _ _ _) (by decide)).mono ?_
      rintro e w6 ⟨v, rfl, hb6, b, rfl, hbt⟩
      obtain rfl : b = true := hbt.2 rfl
      have HB6 := Lib.hid (HB5.out.trans (hb6.mono HB5.out.size))
      clear hb6 hbt
      go_wp2
      go_ret
      exact ⟨_, rfl, HB6.out, isB_true trivial⟩
    · have HR := Lib.hid hR
      have HBs := Lib.hid hbs
      clear hR hbs
      rcases hcase with ⟨hn, rfl⟩ | ⟨hy, out, x, hway, rfl, a1, d1, rfl, hown1⟩
      · have Hn := Lib.hid hn
        clear hn
        go_wp2_with fail
        refine (refWay_any aL aE cL cE p tn locs edges 20 C _ (HL.out.ext HB3.out) (HE.out.ext HB3.out) HF.out HC.out).mono ?_
        rintro e w4 ⟨v, rfl, hb4, hr4⟩
        rcases hr4 with ⟨hno, _⟩ | ⟨_, tm, he, _, bs', hbs', hcase⟩
        · exact absurd ⟨HR.out, by omega, by omega⟩ hno
        obtain rfl : tn = tm := by omega
        obtain rfl := HBs.out.unique hbs'
        rcases hcase with ⟨_, rfl⟩ | ⟨hy, _⟩
        rotate_left
        · exact absurd hy Hn.out
        have HB4 := Lib.hid (HB3.out.trans (hb4.mono HB3.out.size))
        clear hb4 he hbs'
        go_wp2_with fail
        refine (alive_any _).mono ?_
        rintro e w5 ⟨v, rfl, hb5, b, rfl, hbt⟩
        obtain rfl : b = true := hbt.2 trivial
        have HB5 := Lib.hid (HB4.out.trans (hb5.mono HB4.out.size))
        clear hb5 hbt
        go_wp2_with fail
        refine (ints_any none none 0 0 [] [] _ (Row.nil _ _ _) (Row.nil _ _ _) (by decide)).mono ?_
        rintro e w6 ⟨v, rfl, hb6, b, rfl, hbt⟩
        obtain rfl : b = true := hbt.2 rfl
        have HB6 := Lib.hid (HB5.out.trans (hb6.mono HB5.out.size))
        clear hb6 hbt
        go_wp2
        go_ret
        exact ⟨_, rfl, HB6.out, isB_true trivial⟩
      · have Hy := Lib.hid hy
        have Hway := Lib.hid hway
        have Hown1 := Lib.hid hown1
        have hlen : out.length ≤ 1099511627776 := by
          obtain ⟨K, h1, ⟨x, hx, hx1⟩, h2, c, m, hd⟩ := hway
          have h3 := hd.len
          obtain ⟨LK, N, hp⟩ := plan_exists (HC.out HR.out) HBs.out hy (fun e he => by obtain ⟨j, hj, rfl⟩ := List.getElem_of_mem he; exact HR.out.edges j _ (List.getElem?_eq_getElem hj)) HF.out.deref
          have h4 : K ≤ N := by
            rcases Nat.lt_or_ge N K with h | h
            · exact absurd hp.last (h2 N _ hp.one h (hp.looks N))
            · exact h
          have h5 := hp.short
          have h6 : locs.length * (locs.length * 20 + 2) ≤ 40 * 802 := Nat.mul_le_mul hle1 (by omega)
          omega
        clear hy hway hown1
        go_wp2_with fail
        refine (refWay_any aL aE cL cE p tn locs edges 20 C _ (HL.out.ext HB3.out) (HE.out.ext HB3.out) HF.out HC.out).mono ?_
        rintro e w4 ⟨v, rfl, hb4, hr4⟩
        rcases hr4 with ⟨hno, _⟩ | ⟨_, tm, he, _, bs', hbs', hcase⟩
        · exact absurd ⟨HR.out, by omega, by omega⟩ hno
        obtain rfl : tn = tm := by omega
        obtain rfl := HBs.out.unique hbs'
        rcases hcase with ⟨hn, _⟩ | ⟨_, out2, x2, hway2, rfl, a2, d2, rfl, hown2⟩
        · exact absurd Hy.out hn
        obtain rfl := Hway.out.unique hway2
        have HB4 := Lib.hid (HB3.out.trans (hb4.mono HB3.out.size))
        have Hown1 := Lib.hid (Hown1.out.ext hb4)
        have Hown2 := Lib.hid hown2
        clear hb4 he hbs' hway2 hown2
        go_wp2_with fail
        refine (alive_any _).mono ?_
        rintro e w5 ⟨v, rfl, hb5, b, rfl, hbt⟩
        obtain rfl : b = true := hbt.2 trivial
        have HB5 := Lib.hid (HB4.out.trans (hb5.mono HB4.out.size))
        have Hown1 := Lib.hid (Hown1.out.ext hb5)
        have Hown2 := Lib.hid (Hown2.out.ext hb5)
        clear hb5 hbt
        go_wp2_with fail
        refine (ints_any a1 a2 d1 d2 out out _ Hown1.out.row Hown2.out.row hlen).mono ?_
        rintro e w6 ⟨v, rfl, hb6, b, rfl, hbt⟩
        obtain rfl : b = true := hbt.2 rfl
        have HB6 := Lib.hid (HB5.out.trans (hb6.mono HB5.out.size))
        clear hb6 hbt
        go_wp2
        go_ret
        exact ⟨_, rfl, HB6.out, isB_true trivial⟩
end Go.Proofs.Ytadekfjgdbngdaa
