/- WhyReason, walked. -/
import Derived.Test.YtadekfjgdbngdaaLawS
namespace Go.Proofs.Ytadekfjgdbngdaa
open Go Go.RowKit

theorem trues_mem (bs : List Bool) (r : Nat) : ((r : Int) ∈ trues bs bs.length) ↔ bs[r]? = some true := by
  rw [mem_trues]
  constructor
  · rintro ⟨j, hj, _, h2⟩
    obtain rfl : r = j := by omega
    exact h2
  · intro h; exact ⟨r, rfl, get_lt h, h⟩
theorem outl_sink (lp : Nat → Int) (bs : List Bool) (r t : Nat) : Outl lp (trues bs bs.length) r t ↔ Sink lp bs t r := by
  unfold Outl Sink; rw [trues_mem]

set_option maxRecDepth 20000 in
set_option maxHeartbeats 8000000 in
theorem whyReason_any (aL aE : Option Addr) (cL cE : Nat) (p at_ : Int) (locs : List LocD) (edges : List EdgeD) (w : World) (hL : Row w 5 aL locs.length (locs.flatMap LocD.cells)) (hE : Row w 3 aE edges.length (edges.flatMap EdgeD.cells))
    (hl : locs.length ≤ maxLen) (hl' : edges.length ≤ maxLen) :
    Calls Try.prog 4 #[.agg #[.slice aL locs.length cL, .slice aE edges.length cE, .int .i64 p], .int .i64 at_] w (Ret w (IsB True)) := by
  have HL := Lib.hid hL
  have HE := Lib.hid hE
  clear hL hE
  obtain ⟨C, HC⟩ : ∃ C, Hid (RightG locs edges p → ComeAll edges locs.length C) := by
    by_cases hR : RightG locs edges p
    · have hok : ∀ e ∈ edges, EdgeOk locs.length e := fun e he => by obtain ⟨j, hj, rfl⟩ := List.getElem_of_mem he; exact hR.edges j _ (List.getElem?_eq_getElem hj)
      obtain ⟨C, hC⟩ := comeAll_exists (D := 1048576) hok (fun e he => by have := (hok e he).2.2.2.2.2; simpa using this)
      exact ⟨C, fun _ => hC⟩
    · exact ⟨fun _ => [], fun h => absurd h hR⟩
  go_enter Try.func4, Try.ntmps4
  go_wp2_with fail
  have hb0 := below_a1 w (.cells #[.slice aL locs.length cL, .slice aE edges.length cE, .int .i64 p] 25)
  have k0 : Blk (w.alloc (.cells #[.slice aL locs.length cL, .slice aE edges.length cE, .int .i64 p] 25)) w.heap.size #[.slice aL locs.length cL, .slice aE edges.length cE, .int .i64 p] 25 := Blk.new rfl
  refine (small_any aL aE cL cE p locs edges _ (HE.out.ext hb0) hl hl').mono ?_
  rintro e w1 ⟨v, rfl, hb1, ok, rfl, hok⟩
  have k1 := k0.ext hb1
  have c0 := k1.cell 0
  have c1 := k1.cell 1
  have c2 := k1.cell 2
  simp only [List.getElem?_toArray, List.getElem?_cons_zero, List.getElem?_cons_succ] at c0 c1 c2
  have HB1 := Lib.hid (hb0.trans (hb1.mono hb0.size))
  have K1 := Lib.hid k1
  have Hok := Lib.hid hok
  clear hb0 hb1 k0 k1 hok
  go_wp2_with fail
  refine (refEscs_big aL aE cL cE p locs edges C _ (HL.out.ext HB1.out) (HE.out.ext HB1.out) HC.out hl hl').mono ?_
  rintro e w2 ⟨v, rfl, hb2, hr⟩
  have k2 := K1.out.ext hb2
  have c0 := k2.cell 0
  have c1 := k2.cell 1
  have c2 := k2.cell 2
  simp only [List.getElem?_toArray, List.getElem?_cons_zero, List.getElem?_cons_succ] at c0 c1 c2
  have HB2 := Lib.hid (HB1.out.trans (hb2.mono HB1.out.size))
  have K2 := Lib.hid k2
  clear hb2 k2
  rcases hr with ⟨hno, rfl⟩ | ⟨hR, bs, x, hbs, rfl, aX, cX, rfl, hownX⟩
  · clear hno
    cases ok <;>
    · go_wp2_with fail
      refine (alive_any _).mono ?_
      rintro e w3 ⟨v, rfl, hb3, b, rfl, hbt⟩
      obtain rfl : b = true := hbt.2 trivial
      go_wp2
      go_ret
      exact ⟨_, rfl, HB2.out.trans (hb3.mono HB2.out.size), isB_true trivial⟩
  · have HR := Lib.hid hR
    have HBs := Lib.hid hbs
    have HX := Lib.hid hownX.row
    clear hR hbs hownX
    cases ok
    · go_wp2_with fail
      refine (alive_any _).mono ?_
      rintro e w3 ⟨v, rfl, hb3, b, rfl, hbt⟩
      obtain rfl : b = true := hbt.2 trivial
      go_wp2
      go_ret
      exact ⟨_, rfl, HB2.out.trans (hb3.mono HB2.out.size), isB_true trivial⟩
    · have hs := Hok.out.1 rfl
      have HF := Lib.hid hs.fit
      have hle1 := hs.1
      have hle2 := hs.2.1
      clear hs
      by_cases hto : 0 ≤ at_ ∧ at_ < locs.length
      rotate_left
      · go_wp2_with fail
        all_goals
          refine (alive_any _).mono ?_
          rintro e w3 ⟨v, rfl, hb3, b, rfl, hbt⟩
          obtain rfl : b = true := hbt.2 trivial
          go_wp2
          go_ret
          exact ⟨_, rfl, HB2.out.trans (hb3.mono HB2.out.size), isB_true trivial⟩
      · obtain ⟨ht0, ht1⟩ := hto
        obtain ⟨t, rfl⟩ := Int.eq_ofNat_of_zero_le ht0
        have htn : t < locs.length := by omega
        have f1 : decide ((t : Int) < 0) = false := by simp
        have f2 : decide ((locs.length : Int) ≤ (t : Int)) = false := by simp; omega
        go_wp2_with fail
        refine (of_any aL aE cL cE p locs edges _ (HL.out.ext HB2.out) (HE.out.ext HB2.out) (by omega) (by omega)).mono ?_
        rintro e w3 ⟨v, rfl, hb3, bL, dL, bE, dE, rfl, hL3, hE3⟩
        have HL3 := Lib.hid hL3
        have HE3 := Lib.hid hE3
        have HB3 := Lib.hid (HB2.out.trans (hb3.mono HB2.out.size))
        have K3 := Lib.hid (K2.out.ext hb3)
        have HX3 := Lib.hid (HX.out.ext hb3)
        clear hL3 hE3 hb3
        go_wp2_with fail
        refine (way_any bL bE dL dE p t locs edges 20 C _ HL3.out HE3.out HF.out HC.out).mono ?_
        rintro e w4 ⟨v, rfl, hb4, hr4⟩
        have k4 := K3.out.ext hb4
        have c0 := k4.cell 0
        have c1 := k4.cell 1
        have c2 := k4.cell 2
        simp only [List.getElem?_toArray, List.getElem?_cons_zero, List.getElem?_cons_succ] at c0 c1 c2
        have HB4 := Lib.hid (HB3.out.trans (hb4.mono HB3.out.size))
        have K4 := Lib.hid k4
        have HX4 := Lib.hid (HX3.out.ext hb4)
        clear hb4 k4
        rcases hr4 with ⟨hno, _⟩ | ⟨_, tm, he, _, bs', hbs', hcase⟩
        · exact absurd ⟨HR.out, by omega, by omega⟩ hno
        obtain rfl : t = tm := by omega
        obtain rfl := HBs.out.unique hbs'
        clear he hbs'
        have hlX : (trues bs bs.length).length ≤ 40 := by have h1 := trues_len bs bs.length; have h2 := HBs.out.1; omega
        have Hmem := Lib.hid (trues_mem bs t)
        have Hos := Lib.hid (fun r => outl_sink (lpOf locs) bs r t)
        generalize trues bs bs.length = lX at *
        have hoks : ∀ e ∈ edges, EdgeOk locs.length e := fun e he => by obtain ⟨j, hj, rfl⟩ := List.getElem_of_mem he; exact HR.out.edges j _ (List.getElem?_eq_getElem hj)
        have Hoks := Lib.hid hoks
        clear hoks
        rcases hcase with ⟨hn, rfl⟩ | ⟨hy, out, x, hway, rfl, a1, d1, rfl, hown⟩
        · have Hn := Lib.hid hn
          clear hn
          go_wp2_with fail
          have Hcnt : Hid ((false = true) ↔ ∃ j : Nat, j < 0 ∧ lX[j]? = some (t : Int)) := by refine Lib.hid ?_; simp
          go_loopw [10, 11] (fun ev i wr => ∃ (k : Nat) (b : Bool), k ≤ lX.length ∧ ev = .bool b ∧ i = .int .i64 k ∧ Hid (b = true ↔ ∃ j : Nat, j < k ∧ lX[j]? = some (t : Int)) ∧ wr = w4) (fun _ i _ => lX.length - (intOf i).toNat)
          case atStart => exact ⟨0, false, Nat.zero_le _, rfl, rfl, Hcnt, rfl⟩
          case round =>
            obtain ⟨k, b, hk, rfl, rfl, hbk, rfl⟩ := hrel
            by_cases hlt : k < lX.length
            · obtain ⟨z, hz⟩ := get_some hlt
              obtain ⟨bX, oX, rfl, z1⟩ := row_int HX4.out hz
              have Hz := Lib.hid hz
              clear hz
              have step : ∀ b' : Bool, (b' = (b || (z == (t : Int)))) → Hid (b' = true ↔ ∃ j : Nat, j < k + 1 ∧ lX[j]? = some (t : Int)) := fun b' hb' => by
                refine Lib.hid ?_
                subst hb'
                rw [Bool.or_eq_true, hbk.out]
                constructor
                · rintro (⟨j, hj, h⟩ | h)
                  · exact ⟨j, by omega, h⟩
                  · exact ⟨k, by omega, by rw [Hz.out]; simpa using h⟩
                · rintro ⟨j, hj, h⟩
                  rcases Nat.lt_or_ge j k with q | q
                  · exact .inl ⟨j, q, h⟩
                  · obtain rfl : j = k := by omega
                    rw [Hz.out] at h; cases h; right; simp
              have Step := Lib.hid step
              clear step hbk
              cases b
              · by_cases q1 : z = t
                · have g1 : (z == (t : Int)) = true := by simpa using q1
                  have G1 := Lib.hid g1
                  clear q1
                  go_wp2
                  go_roundw
                  case rel => exact ⟨k + 1, true, by omega, rfl, by go_num, Step.out true (by rw [G1.out]; rfl), by first | rfl | trivial⟩
                  case measure => simp [intOf]; omega
                · have g1 : (z == (t : Int)) = false := by simpa using q1
                  have G1 := Lib.hid g1
                  clear q1
                  go_wp2
                  go_roundw
                  case rel => exact ⟨k + 1, false, by omega, rfl, by go_num, Step.out false (by rw [G1.out]; rfl), by first | rfl | trivial⟩
                  case measure => simp [intOf]; omega
              · go_wp2
                go_roundw
                case rel => exact ⟨k + 1, true, by omega, rfl, by go_num, Step.out true (by simp), by first | rfl | trivial⟩
                case measure => simp [intOf]; omega
            · obtain rfl : k = lX.length := by omega
              have hbm : b = true ↔ bs[t]? = some true := by
                rw [hbk.out, ← Hmem.out]
                constructor
                · rintro ⟨j, _, h⟩; exact List.mem_of_getElem? h
                · intro h; obtain ⟨j, hj, he⟩ := List.getElem_of_mem h; exact ⟨j, hj, by rw [List.getElem?_eq_getElem hj, he]⟩
              clear hbk
              obtain rfl : b = false := by cases b; rfl; exact absurd (hbm.1 rfl) Hn.out
              go_wp2_with fail
              refine (alive_any _).mono ?_
              rintro e w5 ⟨v, rfl, hb5, b, rfl, hbt⟩
              obtain rfl : b = true := hbt.2 trivial
              go_wp2
              go_ret
              exact ⟨_, rfl, HB4.out.trans (hb5.mono HB4.out.size), isB_true trivial⟩
        · have Hy := Lib.hid hy
          have Hway := Lib.hid hway
          have Hown := Lib.hid hown
          clear hy hway hown
          go_wp2_with fail
          have Hcnt : Hid ((false = true) ↔ ∃ j : Nat, j < 0 ∧ lX[j]? = some (t : Int)) := by refine Lib.hid ?_; simp
          go_loopw [10, 11] (fun ev i wr => ∃ (k : Nat) (b : Bool), k ≤ lX.length ∧ ev = .bool b ∧ i = .int .i64 k ∧ Hid (b = true ↔ ∃ j : Nat, j < k ∧ lX[j]? = some (t : Int)) ∧ wr = w4) (fun _ i _ => lX.length - (intOf i).toNat)
          case atStart => exact ⟨0, false, Nat.zero_le _, rfl, rfl, Hcnt, rfl⟩
          case round =>
            obtain ⟨k, b, hk, rfl, rfl, hbk, rfl⟩ := hrel
            by_cases hlt : k < lX.length
            · obtain ⟨z, hz⟩ := get_some hlt
              obtain ⟨bX, oX, rfl, z1⟩ := row_int HX4.out hz
              have Hz := Lib.hid hz
              clear hz
              have step : ∀ b' : Bool, (b' = (b || (z == (t : Int)))) → Hid (b' = true ↔ ∃ j : Nat, j < k + 1 ∧ lX[j]? = some (t : Int)) := fun b' hb' => by
                refine Lib.hid ?_
                subst hb'
                rw [Bool.or_eq_true, hbk.out]
                constructor
                · rintro (⟨j, hj, h⟩ | h)
                  · exact ⟨j, by omega, h⟩
                  · exact ⟨k, by omega, by rw [Hz.out]; simpa using h⟩
                · rintro ⟨j, hj, h⟩
                  rcases Nat.lt_or_ge j k with q | q
                  · exact .inl ⟨j, q, h⟩
                  · obtain rfl : j = k := by omega
                    rw [Hz.out] at h; cases h; right; simp
              have Step := Lib.hid step
              clear step hbk
              cases b
              · by_cases q1 : z = t
                · have g1 : (z == (t : Int)) = true := by simpa using q1
                  have G1 := Lib.hid g1
                  clear q1
                  go_wp2
                  go_roundw
                  case rel => exact ⟨k + 1, true, by omega, rfl, by go_num, Step.out true (by rw [G1.out]; rfl), by first | rfl | trivial⟩
                  case measure => simp [intOf]; omega
                · have g1 : (z == (t : Int)) = false := by simpa using q1
                  have G1 := Lib.hid g1
                  clear q1
                  go_wp2
                  go_roundw
                  case rel => exact ⟨k + 1, false, by omega, rfl, by go_num, Step.out false (by rw [G1.out]; rfl), by first | rfl | trivial⟩
                  case measure => simp [intOf]; omega
              · go_wp2
                go_roundw
                case rel => exact ⟨k + 1, true, by omega, rfl, by go_num, Step.out true (by simp), by first | rfl | trivial⟩
                case measure => simp [intOf]; omega
            · obtain rfl : k = lX.length := by omega
              have hbm : b = true ↔ bs[t]? = some true := by
                rw [hbk.out, ← Hmem.out]
                constructor
                · rintro ⟨j, _, h⟩; exact List.mem_of_getElem? h
                · intro h; obtain ⟨j, hj, he⟩ := List.getElem_of_mem h; exact ⟨j, hj, by rw [List.getElem?_eq_getElem hj, he]⟩
              clear hbk
              obtain rfl : b = true := hbm.2 Hy.out
              clear hbm
              obtain ⟨w4, rfl⟩ : ∃ W, W = wr := ⟨_, rfl⟩
              obtain ⟨h2, hhead, hrange, hlook, ⟨cl, hlast, hcl⟩, -⟩ := Hway.out.tells (fun i v h h' => (look0_val h h').1) Hoks.out htn
              obtain ⟨LK, N, hplan⟩ := plan_exists (HC.out HR.out) HBs.out Hy.out Hoks.out HF.out.deref
              have hlN : out.length = N + 1 := by
                obtain ⟨K, hK1, ⟨xk, hxk, hxl⟩, hKmin, cc, mm, hdesc⟩ := Hway.out
                have h3 := hdesc.len
                rcases Nat.lt_trichotomy K N with h | h | h
                · exact absurd (by rw [← hxk.unique (hplan.looks K)]; exact hxl) (hplan.first K hK1 h)
                · omega
                · exact absurd hplan.last (hKmin N _ hplan.one h (hplan.looks N))
              have hN : N ≤ 32080 := Nat.le_trans hplan.short (Nat.mul_le_mul hle1 (by omega : locs.length * 20 + 2 ≤ 802))
              obtain ⟨bO, oO, rfl, o0⟩ := row_int Hown.out.row hhead
              rw [Nat.add_zero] at o0
              obtain ⟨hc0, hcn⟩ := hrange cl (List.mem_of_getElem? hlast)
              obtain ⟨cN, rfl⟩ := Int.eq_ofNat_of_zero_le hc0
              have hsink : Outl (lpOf locs) lX cN t := by
                rw [Hos.out]
                rw [Int.toNat_natCast] at hcl
                exact (look0_val hcl (by decide)).2.1
              have Hsink := Lib.hid hsink
              have Hrange := Lib.hid hrange
              have Hlook := Lib.hid hlook
              have Hlast := Lib.hid hlast
              have Hplan := Lib.hid hplan
              have HlN := Lib.hid hlN
              have hl2 : ¬ (out.length : Int) < 2 := by omega
              have hlen : out.length ≤ 1099511627776 := by omega
              have hlen0 : 0 < out.length := by omega
              clear hsink hrange hlook hlast hplan hhead hcl hlN
              go_wp2_with fail
              go_loopw [12] (fun i wr => ∃ k : Nat, k ≤ out.length ∧ i = .int .i64 k ∧ Hid (∃ z, wr = w4.drewN z)) (fun i _ => out.length - (intOf i).toNat)
              case atStart => exact ⟨0, Nat.zero_le _, rfl, ⟨0, rfl⟩⟩
              case round =>
                obtain ⟨k, hk, rfl, ⟨zz, rfl⟩⟩ := hrel
                by_cases hlt2 : k < out.length
                · obtain ⟨z, hz⟩ := get_some hlt2
                  obtain ⟨hz0, hz1⟩ := Hrange.out z (List.mem_of_getElem? hz)
                  obtain ⟨b', o', he, z1⟩ := row_int Hown.out.row hz
                  cases he
                  have g0 : ¬ z < 0 := by omega
                  have g1 : ¬ (locs.length : Int) ≤ z := by omega
                  clear hz
                  go_wp2_with fail
                  go_quiet (fail)
                  go_wp2
                  go_roundw
                  case rel => exact ⟨k + 1, by omega, by go_num, ⟨_, rfl⟩⟩
                  case measure => simp [intOf]; omega
                · obtain rfl : k = out.length := by omega
                  have HbX := Lib.hid (below_drewN HB4.out zz)
                  have HrO := Lib.hid (Hown.out.row.drew zz)
                  have HrX := Lib.hid (HX4.out.drew zz)
                  have kd := K4.out.drewN zz
                  generalize w4.drewN zz = W5 at *
                  have c0 := kd.cell 0
                  have c1 := kd.cell 1
                  have c2 := kd.cell 2
                  simp only [List.getElem?_toArray, List.getElem?_cons_zero, List.getElem?_cons_succ] at c0 c1 c2
                  have Kd := Lib.hid kd
                  clear kd
                  go_wp2_with fail
                  refine (lawLook_any aL aE (some ⟨bO, oO, none⟩) cL cE d1 p locs edges out (-1) _ (HE.out.ext HbX.out) HrO.out Hoks.out (by omega) hlen Hlook.out).mono ?_
                  rintro e w6 ⟨v, rfl, hb6, rfl⟩
                  have kd6 := Kd.out.ext hb6
                  have c0 := kd6.cell 0
                  have c1 := kd6.cell 1
                  have c2 := kd6.cell 2
                  simp only [List.getElem?_toArray, List.getElem?_cons_zero, List.getElem?_cons_succ] at c0 c1 c2
                  have HB6 := Lib.hid (HbX.out.trans (hb6.mono HbX.out.size))
                  have HrO6 := Lib.hid (HrO.out.ext hb6)
                  have HrX6 := Lib.hid (HrX.out.ext hb6)
                  have Kd6 := Lib.hid kd6
                  obtain ⟨l1, hl1⟩ : ∃ l1, out.length = l1 + 1 := ⟨out.length - 1, by omega⟩
                  obtain ⟨b', o', he, z1⟩ := row_int HrO6.out (i := l1) (by have := Hlast.out; rw [hl1, Nat.add_sub_cancel] at this; exact this)
                  cases he
                  have Hlout : Hid (Calls Try.prog 13 #[.agg #[.slice aL locs.length cL, .slice aE edges.length cE, .int .i64 p], .slice aX lX.length cX, .int .i64 cN, .int .i64 t] w6.drew (Ret w6.drew (IsB (Outl (lpOf locs) lX cN t)))) := by
                    refine Lib.hid ?_
                    exact lawOut_any aL aE aX cL cE cX p cN t locs edges lX w6.drew (HL.out.ext HB6.out.drew) HrX6.out (by omega) htn (by omega) (by omega)
                  have hwl : IntKind.i64.wrap (l1 : Int) = (l1 : Int) := by simp [IntKind.wrap, IntKind.bits, IntKind.signed]; omega
                  have hll : (l1 : Int) < (l1 : Int) + 1 := by omega
                  have hlb : l1 ≤ 1099511627776 := by omega
                  have Hl1 := Lib.hid hl1
                  simp only [hl1]
                  clear hb6 kd6 Kd hl2 hlen hlen0 hl1
                  go_wp2_with fail
                  go_region_held3 (fun w' => w'.cell? ⟨w.heap.size, 0, none⟩ = some (.slice aL locs.length cL) ∧ w'.cell? ⟨w.heap.size, 1, none⟩ = some (.slice aE edges.length cE) ∧ w'.cell? ⟨w.heap.size, 2, none⟩ = some (.int .i64 p) ∧ w'.cell? ⟨bO, oO + l1, none⟩ = some (.int .i64 cN)) (go_keep) (first | (go_at_call 13; refine Hlout.out.mono ?_; rintro e w7 ⟨v, rfl, hb7, b7, rfl, hbt7⟩; have y0 := below_ext hb7 c0; have y1 := below_ext hb7 c1; have y2 := below_ext hb7 c2; have y3 := below_ext hb7 z1))
                  obtain rfl : b7 = true := hbt7.2 Hsink.out
                  replace hb7 : Below w6.heap.size w6 w7 := (Below.refl w6.heap.size w6).drew.trans (show Below w6.heap.size w6.drew w7 from hb7)
                  have HB7 := Lib.hid (HB6.out.trans (hb7.mono HB6.out.size))
                  have HrX7 := Lib.hid (HrX6.out.ext hb7)
                  clear hb7 hbt7
                  go_wp2_with fail
                  refine (lawShort_any aL aE aX cL cE cX p _ t 20 N locs edges bs lX LK _ (HL.out.ext HB7.out) (HE.out.ext HB7.out) HrX7.out Hoks.out (by omega) (by omega) (by omega) htn (fun r _ => Hos.out r) Hplan.out (by decide) HF.out.m (by have h1 := HlN.out; have h2 := Hl1.out; omega) (by omega)).mono ?_
                  rintro e w8 ⟨v, rfl, hb8, rfl⟩
                  have HB8 := Lib.hid (HB7.out.trans (hb8.mono HB7.out.size))
                  clear hb8
                  go_wp2_with fail
                  refine (alive_any _).mono ?_
                  rintro e w9 ⟨v, rfl, hb9, b, rfl, hbt⟩
                  obtain rfl : b = true := hbt.2 trivial
                  go_wp2
                  go_ret
                  exact ⟨_, rfl, HB8.out.trans (hb9.mono HB8.out.size), isB_true trivial⟩
end Go.Proofs.Ytadekfjgdbngdaa
