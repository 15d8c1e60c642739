/- The document's least looks by one edge more, walked. -/
import Derived.Test.YtadekfjgdbngdaaLook
import Derived.Test.YtadekfjgdbngdaaRefCome
namespace Go.Proofs.Ytadekfjgdbngdaa
open Go Go.RowKit

set_option maxRecDepth 20000 in
set_option maxHeartbeats 1000000 in
theorem least_any (aL aE aR : Option Addr) (cL cE cR : Nat) (p : Int) (locs : List LocD) (edges : List EdgeD) (rest : List Int) (w : World) (hE : Row w 3 aE edges.length (edges.flatMap EdgeD.cells)) (hr : Row w 1 aR rest.length (rest.map (Value.int .i64)))
    (hn : rest.length = locs.length) (hok : ∀ e ∈ edges, EdgeOk locs.length e) (hl : locs.length ≤ 1048576) (hl0 : 0 < locs.length) (hl' : edges.length ≤ 1099511627776) (hb : ∀ x ∈ rest, -2 ≤ x ∧ x ≤ 2305843009213693952) :
    Calls Try.prog 27 #[.agg #[.slice aL locs.length cL, .slice aE edges.length cE, .int .i64 p], .slice aR rest.length cR] w (Ret w (IntsOf w.heap.size (Longer edges rest))) := by
  have HE := Lib.hid hE
  have HR := Lib.hid hr
  have Hok := Lib.hid hok
  have Hbd := Lib.hid hb
  have hnr : rest.length ≤ 1048576 := by omega
  have hnr0 : 0 < rest.length := by omega
  have Hn := Lib.hid hn
  clear hE hr hok hb hn
  obtain ⟨i0, hi, hz0, hz1, hz2⟩ := info_parts Try.infoInt
  have Hi := Lib.hid hi
  clear hi
  go_enter Try.func27, Try.ntmps27
  go_wp2_with (at_make; refine wpList_make_full _ rfl _ _ 28 rfl w.heap.size 3 i0 (.int .i64 0) 1 Try.underlying28 Hi.out hz0 hz1 _ _ _ _ rest.length rfl rfl rfl rfl ?b1 ?b2 ?b3 ?_)
  case b1 => rw [hz2]; omega
  case b2 => unfold maxLen; omega
  case b3 => simp
  intro w2 hown hg
  simp only [toList_madeCells_one] at hown
  obtain ⟨a', cap', he, hown', -, -⟩ := Own.ofOwns hown
  simp only [Value.slice.injEq, true_and] at he
  obtain ⟨rfl, rfl⟩ := he
  have hb0 := below_a1 w (.cells #[.slice aL locs.length cL, .slice aE edges.length cE, .int .i64 p] 25)
  have k0 : Blk (w.alloc (.cells #[.slice aL locs.length cL, .slice aE edges.length cE, .int .i64 p] 25)) w.heap.size #[.slice aL locs.length cL, .slice aE edges.length cE, .int .i64 p] 25 := Blk.new rfl
  have hwz : (w.alloc (.cells #[.slice aL locs.length cL, .slice aE edges.length cE, .int .i64 p] 25)).heap.size = w.heap.size + 1 := by simp
  generalize (w.alloc (.cells #[.slice aL locs.length cL, .slice aE edges.length cE, .int .i64 p] 25)) = w1 at *
  generalize hgg : w.heap.size + 1 = g at hown' ⊢
  have Hown := Lib.hid hown'
  have Hb2 := Lib.hid (hb0.grown hg hb0.size (fun k h => by cases h))
  have K2 := Lib.hid (k0.grown hg (by simp))
  have Hsz2 : Hid (w.heap.size < g ∧ g < w2.heap.size) := ⟨by omega, by have := hown'.size (by omega) rfl; exact this.2⟩
  clear hown hown' hg hb0 k0 hgg hwz
  generalize hnn : rest.length = n at *
  have Hnn := Lib.hid hnn
  clear hnn
  go_wp2_with fail
  go_loopw [6] (fun i wr => ∃ k : Nat, k ≤ n ∧ i = .int .i64 k ∧ Hid (Own wr w.heap.size 3 1 (some ⟨g, 0, none⟩) n n (List.replicate k (.int .i64 (-2)) ++ List.replicate (n - k) (.int .i64 0))) ∧ Hid (Below w.heap.size w wr) ∧ Hid (Blk wr w.heap.size #[.slice aL locs.length cL, .slice aE edges.length cE, .int .i64 p] 25)) (fun i _ => n - (intOf i).toNat)
  case atStart => exact ⟨0, Nat.zero_le _, rfl, Hown, Hb2, K2⟩
  case round =>
    clear Hown Hb2 K2
    obtain ⟨k, hk, rfl, hown, hb, hK⟩ := hrel
    by_cases hlt : k < n
    · have h0 := hown.out.at0 hlt
      have hx : (List.replicate k (Value.int .i64 (-2)) ++ List.replicate (n - k) (.int .i64 0))[k]? = some (.int .i64 0) := by rw [List.getElem?_append_right (by rw [List.length_replicate]; exact Nat.le_refl _), List.length_replicate, Nat.sub_self, List.getElem?_replicate, if_pos (by omega)]
      rw [hx] at h0
      obtain ⟨h1, h2, h3, h4⟩ := h0
      clear hx
      go_wp2
      go_roundw
      case rel =>
        refine ⟨k + 1, by omega, by go_num, ?_, hb.out.setCell h3 _, hK.out.other (by have := Hsz2.out.1; show _ ≠ g; omega) _⟩
        have h5 := hown.out.set0 hlt (.int .i64 (-2))
        rw [show n - k = (n - (k + 1)) + 1 from by omega, rep_set] at h5
        exact h5
      case measure => simp [intOf]; omega
    · obtain rfl : k = n := by omega
      have h6 := hown.out
      rw [Nat.sub_self, List.replicate_zero, List.append_nil, ← List.map_replicate (f := Value.int .i64)] at h6
      have H6 := Lib.hid h6
      clear h6 hown
      go_wp2_with fail
      go_loopw [7] (fun i wq => ∃ (q : Nat) (cur : List Int), q ≤ edges.length ∧ i = .int .i64 q ∧ Hid (Longer (edges.take q) rest cur) ∧
        Hid (Own wq w.heap.size 3 1 (some ⟨g, 0, none⟩) k k (cur.map (Value.int .i64))) ∧ Hid (Below w.heap.size w wq) ∧ Hid (Blk wq w.heap.size #[.slice aL locs.length cL, .slice aE edges.length cE, .int .i64 p] 25)) (fun i _ => edges.length - (intOf i).toNat)
      case atStart => exact ⟨0, List.replicate k (-2), Nat.zero_le _, rfl, by rw [List.take_zero]; exact Longer.none rest k Hnn.out, H6, hb, hK⟩
      case round =>
        clear H6 hb hK
        obtain ⟨q, cur, hq, rfl, hcur, hown, hb, hK⟩ := hrel
        have c1 := hK.out.cell 1
        simp only [List.getElem?_toArray, List.getElem?_cons_zero, List.getElem?_cons_succ] at c1
        by_cases hlt2 : q < edges.length
        · obtain ⟨x, hx⟩ := get_some hlt2
          have hok := Hok.out x (List.mem_of_getElem? hx)
          obtain ⟨bE, oE, rfl, e1, e2, e3, hbE⟩ := edge_at (HE.out.ext hb.out) hx
          have Hsn := Lib.hid (take_snoc hx)
          clear hx
          obtain ⟨o1, o2, o3, o4, o5, o6⟩ := hok
          obtain ⟨xs, xd, xr⟩ := x
          simp only at e1 e2 e3 o1 o2 o3 o4 o5 o6
          obtain ⟨sN, rfl⟩ := Int.eq_ofNat_of_zero_le o1
          obtain ⟨dN, rfl⟩ := Int.eq_ofNat_of_zero_le o3
          have hcl := hcur.out.len
          have hnl := Hn.out
          have hnn := Hnn.out
          have hsk : sN < k := by omega
          have hdk : dN < k := by omega
          obtain ⟨d, hd⟩ := get_some (l := rest) (i := dN) (by omega)
          obtain ⟨s, hs⟩ := get_some (l := cur) (i := sN) (by omega)
          obtain ⟨n1, n2, n3, n4⟩ := hown.out.at0 (j := sN) hsk
          rw [List.getElem?_map, hs] at n2
          simp only [Option.map_some] at n2
          have hrow := HR.out.ext hb.out
          rw [← hnn] at hrow
          obtain ⟨bR, oR, rfl, r1⟩ := row_int hrow hd
          obtain ⟨hd1, hd2⟩ := Hbd.out d (List.mem_of_getElem? hd)
          have r1' := below_ext (below_a1 wr (.cells #[.int .i64 sN, .int .i64 dN, .int .i64 xr] 45)) r1
          have n2' := below_ext (below_a1 wr (.cells #[.int .i64 sN, .int .i64 dN, .int .i64 xr] 45)) n2
          have Hd := Lib.hid hd
          have Hs := Lib.hid hs
          clear hd hs hcl hnl hnn hrow
          have Hb' := Lib.hid (hb.out.alloc hb.out.size (.cells #[.int .i64 sN, .int .i64 dN, .int .i64 xr] 45))
          have Hown' := Lib.hid (hown.out.alloc (.cells #[.int .i64 sN, .int .i64 dN, .int .i64 xr] 45))
          have HK' := Lib.hid (hK.out.alloc (.cells #[.int .i64 sN, .int .i64 dN, .int .i64 xr] 45))
          have hwg := Hsz2.out.1
          by_cases hd3 : d = -2
          · have fd : (d == -2) = true := by simpa using hd3
            have Hd3 := Lib.hid hd3
            clear hd3
            go_wp2
            go_roundw
            case rel => exact ⟨q + 1, cur, by omega, by go_num, by rw [Hsn.out]; exact hcur.out.skip (by show rest[(dN : Int).toNat]? = _; rw [Int.toNat_natCast, Hd.out, Hd3.out]), Hown', Hb', HK'⟩
            case measure => simp [intOf]; omega
          · have fd : (d == -2) = false := by simpa using hd3
            have Hd3 := Lib.hid hd3
            clear hd3
            by_cases hlt3 : s = -2 ∨ max d 0 + xr < s
            · have hset := fun z => (Hown'.out.drewN z).set0 (j := sN) hsk (.int .i64 (max d 0 + xr))
              rw [← List.map_set] at hset
              have Hset := Lib.hid hset
              have Hbs := Lib.hid (fun z => (below_drewN Hb'.out z).setCell (p := ⟨g, sN, none⟩) n3 (.int .i64 (max d 0 + xr)))
              have HKs := Lib.hid (fun z => (HK'.out.drewN z).other (p := ⟨g, sN, none⟩) (by show _ ≠ g; omega) (.int .i64 (max d 0 + xr)))
              have Hlt3 := Lib.hid hlt3
              have Hput : Hid (Longer (edges.take (q + 1)) rest (cur.set sN (max d 0 + xr))) := by
                refine Lib.hid ?_
                rw [Hsn.out]
                have := hcur.out.put (e := ⟨sN, dN, xr⟩) (d := d) (s := s) (by show rest[(dN : Int).toNat]? = _; rw [Int.toNat_natCast]; exact Hd.out) Hd3.out (by show cur[(sN : Int).toNat]? = _; rw [Int.toNat_natCast]; exact Hs.out) hlt3 o5 o1
                simpa using this
              clear hset
              by_cases hs2 : s = -2
              · have fs : (s == -2) = true := by simpa using hs2
                clear hs2 hlt3
                go_wp2_with fail
                go_quiet (fail)
                go_wp2
                go_roundw
                case rel =>
                  try rw [show (if d < 0 then (0 : Int) else d) = max d 0 from by omega]
                  exact ⟨q + 1, cur.set sN (max d 0 + xr), by omega, by go_num, Hput, Hset.out _, Hbs.out _, HKs.out _⟩
                case measure => simp [intOf]; omega
              · have fs : (s == -2) = false := by simpa using hs2
                have hl4 : max d 0 + xr < s := by omega
                clear hs2 hlt3
                go_wp2_with fail
                go_quiet (fail)
                go_wp2
                go_roundw
                case rel =>
                  try rw [show (if d < 0 then (0 : Int) else d) = max d 0 from by omega]
                  exact ⟨q + 1, cur.set sN (max d 0 + xr), by omega, by go_num, Hput, Hset.out _, Hbs.out _, HKs.out _⟩
                case measure => simp [intOf]; omega
            · have hs2 : s ≠ -2 := fun h => hlt3 (.inl h)
              have fs : (s == -2) = false := by simpa using hs2
              have hl4 : ¬ max d 0 + xr < s := fun h => hlt3 (.inr h)
              have Hkeep : Hid (Longer (edges.take (q + 1)) rest cur) := by
                rw [Hsn.out]
                exact hcur.out.keep (e := ⟨sN, dN, xr⟩) (d := d) (s := s) (by show rest[(dN : Int).toNat]? = _; rw [Int.toNat_natCast]; exact Hd.out) (by show cur[(sN : Int).toNat]? = _; rw [Int.toNat_natCast]; exact Hs.out) hs2 (by show s ≤ max d 0 + xr; omega)
              clear hlt3 hs2
              go_wp2_with fail
              go_quiet (fail)
              go_wp2
              go_roundw
              case rel => exact ⟨q + 1, cur, by omega, by go_num, Hkeep, Hown'.out.drewN _, below_drewN Hb'.out _, HK'.out.drewN _⟩
              case measure => simp [intOf]; omega
        · obtain rfl : q = edges.length := by omega
          go_wp2
          go_ret
          have h1 := hcur.out
          rw [List.take_length] at h1
          have h2 := h1.len
          refine ⟨_, rfl, hb.out, cur, h1, some ⟨g, 0, none⟩, k, ?_, ?_, fun _ => ⟨_, rfl⟩⟩
          · show Value.slice (some ⟨g, 0, none⟩) k k = Value.slice (some ⟨g, 0, none⟩) cur.length k
            rw [h2, Hnn.out]
          · rw [h2, Hnn.out]; exact hown.out
end Go.Proofs.Ytadekfjgdbngdaa
