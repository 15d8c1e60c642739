/- The law's shorter, walked. -/
import Derived.Test.YtadekfjgdbngdaaLawK
namespace Go.Proofs.Ytadekfjgdbngdaa
open Go Go.RowKit

set_option maxRecDepth 20000 in
set_option maxHeartbeats 8000000 in
theorem lawShort_any (aL aE aX : Option Addr) (cL cE cX : Nat) (p most : Int) (t D N : Nat) (locs : List LocD) (edges : List EdgeD) (bs : List Bool) (l : List Int) (LK : Nat → List Int) (w : World) (hL : Row w 5 aL locs.length (locs.flatMap LocD.cells)) (hE : Row w 3 aE edges.length (edges.flatMap EdgeD.cells)) (hX : Row w 1 aX l.length (l.map (Value.int .i64)))
    (hok : ∀ e ∈ edges, EdgeOk locs.length e) (hl : locs.length ≤ 1048576) (hl' : edges.length ≤ 1048576) (hlX : l.length ≤ 1099511627776) (ht : t < locs.length) (hO : ∀ r, r < locs.length → (Outl (lpOf locs) l r t ↔ Sink (lpOf locs) bs t r))
    (hp : WPlan edges locs.length D (look0 (lpOf locs) bs t locs.length) t LK N) (hD : D ≤ 1048576) (hm : locs.length * (locs.length * D + 2) ≤ 1099511627776) (hmost : most < N) (hm0 : -1 ≤ most) :
    Calls Try.prog 14 #[.agg #[.slice aL locs.length cL, .slice aE edges.length cE, .int .i64 p], .slice aX l.length cX, .int .i64 t, .int .i64 most] w (Ret w (fun x _ => x = .bool false)) := by
  have HL := Lib.hid hL
  have HE := Lib.hid hE
  have HX := Lib.hid hX
  have Hok := Lib.hid hok
  have HO := Lib.hid hO
  have Hp := Lib.hid hp
  have hN : N ≤ 1099511627776 := Nat.le_trans hp.short hm
  have HM := Lib.hid hm
  have hn0 : 0 < locs.length := by omega
  clear hL hE hX hok hO hp hm
  obtain ⟨i0, hi, hz0, hz1, hz2⟩ := info_parts Try.infoInt
  have Hi := Lib.hid hi
  clear hi
  go_enter Try.func14, Try.ntmps14
  have hb0 := below_a1 w (.cells #[.slice aL locs.length cL, .slice aE edges.length cE, .int .i64 p] 25)
  have k0 : Blk (w.alloc (.cells #[.slice aL locs.length cL, .slice aE edges.length cE, .int .i64 p] 25)) w.heap.size #[.slice aL locs.length cL, .slice aE edges.length cE, .int .i64 p] 25 := Blk.new rfl
  go_wp2_with (at_make; refine wpList_make_full _ rfl _ _ 28 rfl w.heap.size 3 i0 (.int .i64 0) 1 Try.underlying28 Hi.out hz0 hz1 _ _ _ _ locs.length rfl rfl rfl rfl ?b1 ?b2 ?b3 ?_)
  case b1 => rw [hz2]; omega
  case b2 => unfold maxLen; omega
  case b3 => exact hb0.size
  intro w2 hown hg
  simp only [toList_madeCells_one] at hown
  obtain ⟨a', cap', he, hown', -, -⟩ := Own.ofOwns hown
  simp only [Value.slice.injEq, true_and] at he
  obtain ⟨rfl, rfl⟩ := he
  have hgg : (w.alloc (.cells #[.slice aL locs.length cL, .slice aE edges.length cE, .int .i64 p] 25)).heap.size = w.heap.size + 1 := by simp
  have Hown : Hid (Own w2 w.heap.size 3 1 (some ⟨w.heap.size + 1, 0, none⟩) locs.length locs.length ((lookL (lpOf locs) bs t 0 (locs.length - 0)).map (Value.int .i64))) := by
    refine Lib.hid ?_
    try rw [hgg] at hown'
    simpa [lookL] using hown'
  have Hb2 := Lib.hid (hb0.grown hg hb0.size (fun k h => by cases h))
  have K2 := Lib.hid (k0.grown hg (by simp))
  clear hown hown' hg hb0 k0
  go_wp2_with fail
  go_loopw [10] (fun i wr => ∃ k : Nat, k ≤ locs.length ∧ i = .int .i64 k ∧ Hid (Own wr w.heap.size 3 1 (some ⟨w.heap.size + 1, 0, none⟩) locs.length locs.length ((lookL (lpOf locs) bs t k (locs.length - k)).map (Value.int .i64))) ∧ Hid (Below w.heap.size w wr) ∧ Hid (Blk wr w.heap.size #[.slice aL locs.length cL, .slice aE edges.length cE, .int .i64 p] 25)) (fun i _ => locs.length - (intOf i).toNat)
  case atStart => exact ⟨0, Nat.zero_le _, rfl, Hown, Hb2, K2⟩
  case round =>
    clear Hown Hb2 K2
    obtain ⟨k, hk, rfl, hown, hb, hG⟩ := hrel
    by_cases hlt : k < locs.length
    · have c0 := hG.out.cell 0
      have c1 := hG.out.cell 1
      have c2 := hG.out.cell 2
      simp only [List.getElem?_toArray, List.getElem?_cons_zero, List.getElem?_cons_succ] at c0 c1 c2
      go_wp2_with fail
      refine (lawOut_any aL aE aX cL cE cX p k t locs edges l _ (HL.out.ext hb.out) (HX.out.ext hb.out) hlt ht hl hlX).mono ?_
      rintro e w3 ⟨v, rfl, hb3, b, rfl, hbt⟩
      have Hown3 := Lib.hid (hown.out.ext hb3)
      have Hb3 := Lib.hid (hb.out.trans (hb3.mono hb.out.size))
      have HG3 := Lib.hid (hG.out.ext hb3)
      have Hbt := Lib.hid (hbt.trans (HO.out k hlt))
      clear hown hb hG hb3 hbt c0 c1 c2
      obtain ⟨h1, h2, h3, h4⟩ := Hown3.out.at0 hlt
      rw [List.getElem?_map, show locs.length - k = (locs.length - (k + 1)) + 1 from by omega, lookL_get] at h2
      simp only [Option.map_some] at h2
      cases b
      · have hs : ¬ Sink (lpOf locs) bs t k := fun h => by have := Hbt.out.2 h; simp at this
        have h5 := Hown3.out.set0 hlt (.int .i64 (-2))
        rw [← List.map_set, show locs.length - k = (locs.length - (k + 1)) + 1 from by omega, show ((-2 : Int)) = (if Sink (lpOf locs) bs t k then 0 else -2) from by rw [if_neg hs], lookL_set, if_neg hs] at h5
        have H5 := Lib.hid h5
        have Hb5 := Lib.hid (Hb3.out.setCell (p := ⟨w.heap.size + 1, k, none⟩) h3 (.int .i64 (-2)))
        have HK5 := Lib.hid (HG3.out.other (p := ⟨w.heap.size + 1, k, none⟩) (by show w.heap.size ≠ w.heap.size + 1; omega) (.int .i64 (-2)))
        clear hs h5
        go_wp2
        go_roundw
        case rel => exact ⟨k + 1, by omega, by go_num, H5, Hb5, HK5⟩
        case measure => simp [intOf]; omega
      · have hs : Sink (lpOf locs) bs t k := Hbt.out.1 rfl
        have Hs := Lib.hid hs
        clear hs
        go_wp2
        go_roundw
        case rel => exact ⟨k + 1, by omega, by go_num, by have := Hown3.out; rw [show locs.length - k = (locs.length - (k + 1)) + 1 from by omega, lookL_keep _ _ _ _ _ Hs.out] at this; exact this, Hb3, HG3⟩
        case measure => simp [intOf]; omega
    · obtain rfl : k = locs.length := by omega
      have Hrow : Hid (Row wr 1 (some ⟨w.heap.size + 1, 0, none⟩) (LK 0).length ((LK 0).map (Value.int .i64))) := by
        refine Lib.hid ?_
        have h6 := hown.out.row
        have e6 : lookL (lpOf locs) bs t locs.length (locs.length - locs.length) = look0 (lpOf locs) bs t locs.length := by simp [lookL, look0]
        rw [e6, ← Hp.out.zero] at h6
        rw [Hp.out.len 0]; exact h6
      clear hown
      go_wp2_with fail
      go_loopw [9, 12] (fun rv kv wr => ∃ (k : Nat) (a : Option Addr) (c : Nat), (k : Int) ≤ max most 0 ∧ kv = .int .i64 k ∧ rv = .slice a locs.length c ∧ Hid (Row wr 1 a (LK k).length ((LK k).map (Value.int .i64))) ∧ Hid (Below w.heap.size w wr) ∧ Hid (Blk wr w.heap.size #[.slice aL locs.length cL, .slice aE edges.length cE, .int .i64 p] 25)) (fun _ kv _ => (most - intOf kv).toNat)
      case atStart => exact ⟨0, _, locs.length, by omega, rfl, rfl, Hrow, hb, hG⟩
      case round =>
        clear Hrow hb hG
        obtain ⟨k, aR, cR, hk, rfl, rfl, hrow, hb, hG⟩ := hrel
        by_cases hlt : (k : Int) < most
        · obtain ⟨Wk, rfl⟩ : ∃ W, W = wr := ⟨_, rfl⟩
          have HRk := Lib.hid hrow.out
          have Hbk := Lib.hid hb.out
          have HGk := Lib.hid hG.out
          have hkN : k + 1 < N := by omega
          have Hbd := Lib.hid (Hp.out.small hD HM.out (k := k) (by omega))
          have Hn := Lib.hid (Hp.out.len k)
          clear hrow hb hG
          go_wp2_with (at_make; refine wpList_make_full _ rfl _ _ 28 rfl Wk.heap.size 3 i0 (.int .i64 0) 1 Try.underlying28 Hi.out hz0 hz1 _ _ _ _ locs.length rfl rfl rfl rfl ?b1 ?b2 ?b3 ?_)
          case b1 => rw [hz2]; omega
          case b2 => unfold maxLen; omega
          case b3 => exact Nat.le_refl _
          intro w4 hown4 hg4
          simp only [toList_madeCells_one] at hown4
          obtain ⟨a', cap', he, hown4', -, -⟩ := Own.ofOwns hown4
          simp only [Value.slice.injEq, true_and] at he
          obtain ⟨rfl, rfl⟩ := he
          have Hown4 := Lib.hid hown4'
          have Hb4 : Hid (Below Wk.heap.size Wk w4) := (Below.refl _ _).grown hg4 (Nat.le_refl _) (fun k h => by cases h)
          clear hown4 hown4' hg4
          go_wp2_with fail
          go_loopw [14] (fun i wr => ∃ j : Nat, j ≤ locs.length ∧ i = .int .i64 j ∧ Hid (Own wr Wk.heap.size 3 1 (some ⟨Wk.heap.size, 0, none⟩) locs.length locs.length (List.replicate j (.int .i64 (-2)) ++ List.replicate (locs.length - j) (.int .i64 0))) ∧ Hid (Below Wk.heap.size Wk wr)) (fun i _ => locs.length - (intOf i).toNat)
          case atStart => exact ⟨0, Nat.zero_le _, rfl, Hown4, Hb4⟩
          case round =>
            clear Hown4 Hb4
            obtain ⟨j, hj, rfl, hown, hb⟩ := hrel
            by_cases hltj : j < locs.length
            · have h0 := hown.out.at0 hltj
              have hx : (List.replicate j (Value.int .i64 (-2)) ++ List.replicate (locs.length - j) (.int .i64 0))[j]? = some (.int .i64 0) := by rw [List.getElem?_append_right (by rw [List.length_replicate]; exact Nat.le_refl _), List.length_replicate, Nat.sub_self, List.getElem?_replicate, if_pos (by omega)]
              rw [hx] at h0
              obtain ⟨h1, h2, h3, h4⟩ := h0
              clear hx
              go_wp2
              go_roundw
              case rel =>
                refine ⟨j + 1, by omega, by go_num, ?_, hb.out.setCell h3 _⟩
                have h5 := hown.out.set0 hltj (.int .i64 (-2))
                rw [show locs.length - j = (locs.length - (j + 1)) + 1 from by omega, rep_set] at h5
                exact h5
              case measure => simp [intOf]; omega
            · have h6 := hown.out
              obtain rfl : j = locs.length := by omega
              rw [Nat.sub_self, List.replicate_zero, List.append_nil, ← List.map_replicate (f := Value.int .i64)] at h6
              have H6 := Lib.hid h6
              clear h6 hown
              go_wp2_with fail
              go_loopw [15] (fun i wq => ∃ (q : Nat) (cur : List Int), q ≤ edges.length ∧ i = .int .i64 q ∧ Hid (Longer (edges.take q) (LK k) cur) ∧
                Hid (Own wq Wk.heap.size 3 1 (some ⟨Wk.heap.size, 0, none⟩) locs.length locs.length (cur.map (Value.int .i64))) ∧ Hid (Below Wk.heap.size Wk wq)) (fun i _ => edges.length - (intOf i).toNat)
              case atStart => exact ⟨0, List.replicate locs.length (-2), Nat.zero_le _, rfl, by rw [List.take_zero]; exact Longer.none (LK k) _ Hn.out, H6, hb⟩
              case round =>
                clear H6 hb
                obtain ⟨q, cur, hq, rfl, hcur, hown, hb⟩ := hrel
                have c1 := (HGk.out.ext hb.out).cell 1
                simp only [List.getElem?_toArray, List.getElem?_cons_zero, List.getElem?_cons_succ] at c1
                by_cases hlt2 : q < edges.length
                · obtain ⟨x, hx⟩ := get_some hlt2
                  have hok := Hok.out x (List.mem_of_getElem? hx)
                  obtain ⟨bE, oE, rfl, e1, e2, e3, hbE⟩ := edge_at (HE.out.ext (Hbk.out.trans (hb.out.mono Hbk.out.size))) hx
                  have Hsn := Lib.hid (take_snoc hx)
                  clear hx
                  obtain ⟨o1, o2, o3, o4, o5, o6⟩ := hok
                  obtain ⟨xs, xd, xr⟩ := x
                  simp only at e1 e2 e3 o1 o2 o3 o4 o5 o6
                  obtain ⟨sN, rfl⟩ := Int.eq_ofNat_of_zero_le o1
                  obtain ⟨dN, rfl⟩ := Int.eq_ofNat_of_zero_le o3
                  have hcl := hcur.out.len
                  have hnl := Hn.out
                  have hsk : sN < locs.length := by omega
                  have hdk : dN < locs.length := by omega
                  obtain ⟨d, hd⟩ := get_some (l := LK k) (i := dN) (by omega)
                  obtain ⟨s, hs⟩ := get_some (l := cur) (i := sN) (by omega)
                  obtain ⟨n1, n2, n3, n4⟩ := hown.out.at0 (j := sN) hsk
                  rw [List.getElem?_map, hs] at n2
                  simp only [Option.map_some] at n2
                  obtain ⟨bR, oR, rfl, r1⟩ := row_int (HRk.out.ext hb.out) hd
                  obtain ⟨hd1, hd2⟩ := Hbd.out d (List.mem_of_getElem? hd)
                  have r1' := below_ext (below_a1 wr (.cells #[.int .i64 sN, .int .i64 dN, .int .i64 xr] 45)) r1
                  have n2' := below_ext (below_a1 wr (.cells #[.int .i64 sN, .int .i64 dN, .int .i64 xr] 45)) n2
                  have Hd := Lib.hid hd
                  have Hs := Lib.hid hs
                  clear hd hs hcl hnl
                  have Hb' := Lib.hid (hb.out.alloc hb.out.size (.cells #[.int .i64 sN, .int .i64 dN, .int .i64 xr] 45))
                  have Hown' := Lib.hid (hown.out.alloc (.cells #[.int .i64 sN, .int .i64 dN, .int .i64 xr] 45))
                  by_cases hd3 : d = -2
                  · have fd : (d == -2) = true := by simpa using hd3
                    have Hd3 := Lib.hid hd3
                    clear hd3
                    go_wp2
                    go_roundw
                    case rel => exact ⟨q + 1, cur, by omega, by go_num, by rw [Hsn.out]; exact hcur.out.skip (by show (LK k)[(dN : Int).toNat]? = _; rw [Int.toNat_natCast, Hd.out, Hd3.out]), Hown', Hb'⟩
                    case measure => simp [intOf]; omega
                  · have fd : (d == -2) = false := by simpa using hd3
                    have Hd3 := Lib.hid hd3
                    clear hd3
                    by_cases hlt3 : s = -2 ∨ max d 0 + xr < s
                    · have hset := fun z => (Hown'.out.drewN z).set0 (j := sN) hsk (.int .i64 (max d 0 + xr))
                      rw [← List.map_set] at hset
                      have Hset := Lib.hid hset
                      have Hbs := Lib.hid (fun z => (below_drewN Hb'.out z).setCell (p := ⟨Wk.heap.size, sN, none⟩) n3 (.int .i64 (max d 0 + xr)))
                      have Hput : Hid (Longer (edges.take (q + 1)) (LK k) (cur.set sN (max d 0 + xr))) := by
                        refine Lib.hid ?_
                        rw [Hsn.out]
                        have := hcur.out.put (e := ⟨sN, dN, xr⟩) (d := d) (s := s) (by show (LK k)[(dN : Int).toNat]? = _; rw [Int.toNat_natCast]; exact Hd.out) Hd3.out (by show cur[(sN : Int).toNat]? = _; rw [Int.toNat_natCast]; exact Hs.out) hlt3 o5 o1
                        simpa using this
                      clear hset
                      by_cases hs2 : s = -2
                      · have fs : (s == -2) = true := by simpa using hs2
                        clear hs2 hlt3
                        go_wp2_with fail
                        go_quiet (fail)
                        go_wp2
                        go_roundw
                        case rel =>
                          try rw [show (if d < 0 then (0 : Int) else d) = max d 0 from by omega]
                          exact ⟨q + 1, cur.set sN (max d 0 + xr), by omega, by go_num, Hput, Hset.out _, Hbs.out _⟩
                        case measure => simp [intOf]; omega
                      · have fs : (s == -2) = false := by simpa using hs2
                        have hl4 : max d 0 + xr < s := by omega
                        clear hs2 hlt3
                        go_wp2_with fail
                        go_quiet (fail)
                        go_wp2
                        go_roundw
                        case rel =>
                          try rw [show (if d < 0 then (0 : Int) else d) = max d 0 from by omega]
                          exact ⟨q + 1, cur.set sN (max d 0 + xr), by omega, by go_num, Hput, Hset.out _, Hbs.out _⟩
                        case measure => simp [intOf]; omega
                    · have hs2 : s ≠ -2 := fun h => hlt3 (.inl h)
                      have fs : (s == -2) = false := by simpa using hs2
                      have hl4 : ¬ max d 0 + xr < s := fun h => hlt3 (.inr h)
                      have Hkeep : Hid (Longer (edges.take (q + 1)) (LK k) cur) := by
                        refine Lib.hid ?_
                        rw [Hsn.out]
                        exact hcur.out.keep (e := ⟨sN, dN, xr⟩) (d := d) (s := s) (by show (LK k)[(dN : Int).toNat]? = _; rw [Int.toNat_natCast]; exact Hd.out) (by show cur[(sN : Int).toNat]? = _; rw [Int.toNat_natCast]; exact Hs.out) hs2 (by show s ≤ max d 0 + xr; omega)
                      clear hlt3 hs2
                      go_wp2_with fail
                      go_quiet (fail)
                      go_wp2
                      go_roundw
                      case rel => exact ⟨q + 1, cur, by omega, by go_num, Hkeep, Hown'.out.drewN _, below_drewN Hb'.out _⟩
                      case measure => simp [intOf]; omega
                · have h1 := hcur.out
                  obtain rfl : q = edges.length := by omega
                  rw [List.take_length] at h1
                  obtain rfl := (Hp.out.step k).unique h1
                  obtain ⟨u, hu⟩ := get_some (l := LK (k + 1)) (i := t) (by rw [Hp.out.len]; exact ht)
                  obtain ⟨-, u2, -, -⟩ := hown.out.at0 ht
                  rw [List.getElem?_map, hu] at u2
                  simp only [Option.map_some] at u2
                  have hune : u ≠ -1 := fun h => Hp.out.first (k + 1) (by omega) hkN (by rw [hu, h])
                  have fu : (u == -1) = false := by simpa using hune
                  have HR2 : Hid (Row wr 1 (some ⟨Wk.heap.size, 0, none⟩) (LK (k + 1)).length ((LK (k + 1)).map (Value.int .i64))) := by
                    refine Lib.hid ?_; rw [Hp.out.len]; exact hown.out.row
                  have Hb9 := Lib.hid (Hbk.out.trans (hb.out.mono Hbk.out.size))
                  have HG9 := Lib.hid (HGk.out.ext hb.out)
                  clear hune hu h1 hown hcur hb
                  go_wp2
                  go_roundw
                  case rel => exact ⟨k + 1, _, locs.length, by omega, by go_num, rfl, HR2, Hb9, HG9⟩
                  case measure => simp [intOf]; omega
        · go_wp2
          go_ret
          exact ⟨_, rfl, hb.out, rfl⟩
end Go.Proofs.Ytadekfjgdbngdaa
