/- The program's search for what comes to one, walked. -/
import Derived.Test.YtadekfjgdbngdaaWork
import Derived.Test.YtadekfjgdbngdaaMade
namespace Go.Proofs.Ytadekfjgdbngdaa
open Go Go.RowKit

set_option maxRecDepth 20000 in
set_option maxHeartbeats 2000000 in
theorem come_any (gx t D : Nat) (p : Int) (locs : List LocD) (edges : List EdgeD) (w : World) (hG : MadeG w gx locs edges p) (hR : RightG locs edges p) (ht : t < locs.length) (hD : ∀ e ∈ edges, e.deref ≤ D)
    (hM : locs.length * (locs.length * D + 2) ≤ 1099511627776) (hD2 : D ≤ 1048576) (hlE : edges.length ≤ 1048576) :
    Calls Try.prog 51 #[.pointer (some ⟨gx, 0, none⟩), .int .i64 t] w (Ret w (IntsOf w.heap.size (IsCome edges locs.length t))) := by
  have hmost := hR.most
  have HR := Lib.hid hR
  have HG := Lib.hid hG
  have HD := Lib.hid hD
  obtain ⟨aL, cL, aE, cE, gb, g0, -, -, -, -, -, -⟩ := hG.cells
  have hgx := cell_lt g0
  have ht' : (t : Int) < locs.length := by omega
  clear hR hG hD
  go_enter Try.func51, Try.ntmps51
  go_wp2_with fail
  refine (repeat_any _ _ (-2) locs.length _ (Row.new1 rfl rfl rfl) (by omega)).mono ?_
  rintro e w1 ⟨v, rfl, hb1, a, cap, rfl, hown, haddr⟩
  simp only [List.length_replicate] at hown haddr
  obtain ⟨g, rfl⟩ := haddr (by omega)
  have hb2 := (below_a1 w (.cells #[.int .i64 (-2)] 3)).trans (hb1.mono (by simp))
  have hcapn : locs.length ≤ cap := hown.le
  have hown2 := hown.mono (base' := w.heap.size) (by simp)
  obtain ⟨m1, m2, m3, m4⟩ := hown2.at0 (j := t) ht
  rw [List.map_replicate, List.getElem?_replicate, if_pos ht] at m2
  have hset := hown2.set0 (j := t) ht (.int .i64 0)
  have e7 : ((List.replicate locs.length (-2 : Int)).map (Value.int .i64)).set t (.int .i64 0) = (Start locs.length t).map (Value.int .i64) := by
    unfold Start; rw [List.map_set]
  rw [e7] at hset
  have Hset := Lib.hid hset
  have Hb2 := Lib.hid hb2
  have m5 := m3
  clear hb1 hown hown2 hset e7 haddr hb2
  go_wp2_with fail
  generalize hn : locs.length = n at *
  have Hn := Lib.hid hn
  generalize hW0 : (w1.setCell ⟨g, t, none⟩ (.int .i64 0)).alloc (.cells #[.int .i64 t] 3) = W0
  have hB0 : Below w.heap.size w W0 := by subst hW0; exact (Hb2.out.setCell m3 _).alloc (by have := Hb2.out.size; simp; omega) _
  have hO0 : Own W0 w.heap.size 3 1 (some ⟨g, 0, none⟩) n cap ((Start n t).map (Value.int .i64)) := by subst hW0; exact Hset.out.alloc _
  have hT0 : Own W0 w.heap.size 3 1 (some ⟨w1.heap.size, 0, none⟩) 1 1 ([(t : Int)].map (Value.int .i64)) := by
    subst hW0; exact Own.ofBlock Hb2.out.size (Blk.new (by simp)) rfl (by decide)
  have hD0 : rowOf (some ⟨w1.heap.size, 0, none⟩) 1 ≠ some g := by unfold rowOf; simp [blockOf]; omega
  have hpot : pot (n * D) (Start n t) ≤ n * (n * D + 2) := by
    have h := pot_le (B := n * D) (l := Start n t) fun i v hv => by rcases start_get hv with ⟨_, rfl⟩ | ⟨_, rfl⟩ <;> omega
    simpa [Start] using h
  generalize hM0 : 2 * pot (n * D) (Start n t) + 1 = M0
  have hM1 : M0 ≤ 2199023255553 := by omega
  have HB0 := Lib.hid hB0
  have HO0 := Lib.hid hO0
  have HT0 := Lib.hid hT0
  have HD0 := Lib.hid hD0
  have HM0 := Lib.hid hM0
  clear hn hW0 hB0 hO0 hT0 hD0 hpot hM0 Hset Hb2 m1 m2
  go_loopg [6] M0 (fun m todo wr => ∃ (out q : List Int) (a : Option Addr) (c : Nat), todo = .slice a q.length c ∧ Hid (m = 2 * pot (n * D) out + q.length ∧ m ≤ M0) ∧ Hid (St edges n t D out ∧ WInv edges out q [] 0) ∧
    Hid (Own wr w.heap.size 3 1 (some ⟨g, 0, none⟩) n cap (out.map (Value.int .i64))) ∧ Hid (Own wr w.heap.size 3 1 a q.length c (q.map (Value.int .i64))) ∧ Hid (rowOf a c ≠ some g) ∧ Hid (Below w.heap.size w wr))
  case atStart => exact ⟨Start n t, [(t : Int)], _, 1, rfl, ⟨HM0.out.symm, Nat.le_refl _⟩, ⟨St.start (by omega), WInv.start (by omega) (fun e he => by obtain ⟨j, hj, rfl⟩ := List.getElem_of_mem he; rw [← Hn.out]; exact HR.out.edges j _ (List.getElem?_eq_getElem hj))⟩, HO0, HT0, HD0, HB0⟩
  case round =>
    clear HB0 HO0 HT0 HD0 HM0
    obtain ⟨out, q, a, c, rfl, hm, hst, hown, hq, hdis, hb⟩ := hrel
    cases q with
    | nil =>
      go_wp2
      go_ret
      have hlen := hst.out.1.len
      exact ⟨.slice (some ⟨g, 0, none⟩) n cap, rfl, hb.out, out, hst.out.1.come hst.out.2.closed, some ⟨g, 0, none⟩, cap, by rw [hlen], by rw [hlen]; exact hown.out, fun _ => ⟨g, rfl⟩⟩
    | cons x q =>
      obtain ⟨hx0, hx1⟩ := hst.out.2.1 x (by simp)
      obtain ⟨xN, rfl⟩ := Int.eq_ofNat_of_zero_le hx0
      obtain ⟨v0, hv0, hv1⟩ := hx1
      rw [Int.toNat_natCast] at hv0
      have hxn : xN < n := by have := get_lt hv0; rw [hst.out.1.len] at this; exact this
      have hc1 : q.length + 1 ≤ c := by have := hq.out.le; simp at this; exact this
      obtain ⟨c, rfl⟩ : ∃ c', c = c' + 1 := ⟨c - 1, by omega⟩
      obtain ⟨tg, to, rfl⟩ := hq.out.addr (by omega)
      obtain ⟨_, _, e9, q0⟩ := hq.out.row.elem1 (l := (xN : Int) :: q) (i := 0) (x := (xN : Int)) rfl
      cases e9
      rw [Nat.add_zero] at q0
      obtain ⟨aL, cL, aE, cE, gb, g0, g1, g2, g3, -, -, hbk⟩ := HG.out.cells
      obtain ⟨ab, cb, k1, k2⟩ := hbk xN (by rw [Hn.out]; exact hxn)
      have g0 := below_ext hb.out g0
      have g3 := below_ext hb.out g3
      have k1 := below_ext hb.out k1
      rw [Hn.out] at g0 g3
      have hd1 : 2 ≤ n := by have := HR.out.two; have := Hn.out; omega
      have hblb := bk_len edges edges.length xN
      generalize hbl : (bk edges edges.length xN).length = bl at *
      have Hbl := Lib.hid hbl
      have Hbk := Lib.hid k2
      clear hbl hbk k2
      have hpop := hst.out.2.pop
      have Hpop := Lib.hid hpop
      clear hpop
      go_wp2_with ((with_reducible show wpList _ _ _ _ _ _); refine wpList_slice_from (o := ⟨some 31, _, _, _, _, _⟩) rfl _ _ _ rfl 3 1 Try.underlying28 Try.sizeInt _ _ _ rfl _ 1 rfl (by omega) (by simp; omega) ?_; intro a' ha'; simp only [List.length_cons, Int.toNat_one, Nat.add_sub_cancel])
      have hqd := hq.out.cut (l := 1) (by simp) ha'.out
      have hdd := rowOf_cut (sz := 1) hdis.out (show 1 ≤ c + 1 by omega)
      rw [← show a' = cutAt _ (c + 1) 1 1 from ha'.out] at hdd
      simp only [Nat.one_mul, List.map_cons, List.drop_succ_cons, List.drop_zero, List.length_cons, Nat.add_sub_cancel] at hqd hdd
      have Hqd := Lib.hid hqd
      have Hdd := Lib.hid hdd
      have Hgb := Lib.hid k1
      clear hqd hdd hq ha' q0 k1
      go_loopw [6, 40] (fun todo i wq => ∃ (cur q2 : List Int) (a2 : Option Addr) (c2 j : Nat), todo = .slice a2 q2.length c2 ∧ i = .int .i64 j ∧ j ≤ bl ∧ Hid (2 * pot (n * D) cur + q2.length + 1 ≤ gk) ∧ Hid (St edges n t D cur ∧ WInv edges cur q2 (bk edges edges.length xN) j ∧ ∃ v, cur[xN]? = some v ∧ v ≠ -2) ∧
        Hid (Own wq w.heap.size 3 1 (some ⟨g, 0, none⟩) n cap (cur.map (Value.int .i64))) ∧ Hid (Own wq w.heap.size 3 1 a2 q2.length c2 (q2.map (Value.int .i64))) ∧ Hid (rowOf a2 c2 ≠ some g) ∧ Hid (Below w.heap.size w wq)) (fun _ i _ => bl - (intOf i).toNat)
      case atStart => exact ⟨out, q, a', c, 0, rfl, rfl, Nat.zero_le _, by have := hm.out.1; simp at this; show _ ≤ _; omega, ⟨hst.out.1, Hpop.out, v0, hv0, hv1⟩, hown, Hqd, Hdd, hb⟩
      case round =>
        have Hm := hm
        have Hst0 := hst
        clear hm hst hown hdis hb Hqd Hdd Hpop
        obtain ⟨cur, q2, a2, c2, j, rfl, rfl, hj, hpot, hst, hown, hq, hdis, hb⟩ := hrel
        by_cases hlt : j < bl
        · obtain ⟨x, hx⟩ := get_some (l := bk edges edges.length xN) (i := j) (by rw [Hbl.out]; exact hlt)
          have hxm := List.mem_of_getElem? hx
          unfold bk at hxm
          rw [List.take_length, List.mem_filter] at hxm
          obtain ⟨hxe, hxd⟩ := hxm
          have hok : EdgeOk n x := by obtain ⟨i9, hi9, rfl⟩ := List.getElem_of_mem hxe; rw [← Hn.out]; exact HR.out.edges i9 _ (List.getElem?_eq_getElem hi9)
          have hxD := HD.out x hxe
          have hkk := Hbk.out
          rw [← Hbl.out] at hkk
          obtain ⟨bE, oE, rfl, e1, e2, e3, hbE⟩ := edge_at (hkk.ext hb.out) hx
          have Hx := Lib.hid hx
          have Hok := Lib.hid hok
          have Hxe := Lib.hid hxe
          obtain ⟨o1, o2, o3, o4, o5, o6⟩ := hok
          obtain ⟨xs, xd, xr⟩ := x
          simp only at e1 e2 e3 o1 o2 o3 o4 o5 o6 hxD hxd
          obtain ⟨sN, rfl⟩ := Int.eq_ofNat_of_zero_le o1
          obtain rfl : xd = (xN : Int) := by simpa using hxd
          have hcl := hst.out.1.len
          obtain ⟨d, hd, hd2⟩ := hst.out.2.2
          obtain ⟨s, hs⟩ := get_some (l := cur) (i := sN) (by omega)
          obtain ⟨m1, m2, m3, m4⟩ := hown.out.at0 (j := xN) hxn
          obtain ⟨n1, n2, -, -⟩ := hown.out.at0 (j := sN) (by omega)
          rw [List.getElem?_map, hd] at m2
          rw [List.getElem?_map, hs] at n2
          simp only [Option.map_some] at m2 n2
          have hlowd := hst.out.1.low _ d hd
          have hbd := hst.out.1.bound _ d hd
          have hcn := cnt_le cur
          have hdb : d ≤ 68719476736 := by
            have : cnt cur * D ≤ 65536 * 1048576 := Nat.mul_le_mul (by omega) hD2
            omega
          have hd3 : -1 ≤ d := by omega
          have Hd := Lib.hid hd
          have Hs := Lib.hid hs
          have Hcl := Lib.hid hcl
          have Hd2 := Lib.hid hd2
          have hbwq := hb.out.size
          clear hd hs hx hbd hcn hcl hd2 hkk hxe hxd
          have hb' := hb.out.alloc hb.out.size (.cells #[.int .i64 sN, .int .i64 xN, .int .i64 xr] 48)
          have hown' := hown.out.alloc (.cells #[.int .i64 sN, .int .i64 xN, .int .i64 xr] 48)
          have hq' := hq.out.alloc (.cells #[.int .i64 sN, .int .i64 xN, .int .i64 xr] 48)
          have Hb' := Lib.hid hb'
          have Hown' := Lib.hid hown'
          have Hq' := Lib.hid hq'
          clear hb' hown' hq'
          by_cases hlt3 : s = -2 ∨ max d 0 + xr < s
          · have hrel := hst.out.1.relax Hxe.out Hok.out hxD (by simpa using Hd.out) Hd2.out (by simpa using Hs.out) hlt3
            have hpush := hst.out.2.1.push Hx.out Hok.out (fun e he => by obtain ⟨i9, hi9, rfl⟩ := List.getElem_of_mem he; rw [← Hn.out]; exact HR.out.edges i9 _ (List.getElem?_eq_getElem hi9)) (by simpa using Hd.out) (by simpa using Hs.out) hlt3
            have hset : ∀ z u, u = max d 0 + xr → Own (((wr.alloc (.cells #[.int .i64 sN, .int .i64 xN, .int .i64 xr] 48)).drewN z).setCell ⟨g, sN, none⟩ (.int .i64 u)) w.heap.size 3 1 (some ⟨g, 0, none⟩) n cap ((cur.set sN (max d 0 + xr)).map (Value.int .i64)) := fun z u hu => by
              subst hu; rw [List.map_set]; exact (Hown'.out.drewN z).set0 (by omega) _
            have hqs : ∀ z u o, Own ((((wr.alloc (.cells #[.int .i64 sN, .int .i64 xN, .int .i64 xr] 48)).drewN z).setCell ⟨g, sN, none⟩ u).alloc o) w.heap.size 3 1 a2 q2.length c2 (q2.map (Value.int .i64)) := fun z u o =>
              ((Hq'.out.drewN z).setCell_row hdis.out u).alloc o
            have hbs : ∀ z u, Below w.heap.size w (((wr.alloc (.cells #[.int .i64 sN, .int .i64 xN, .int .i64 xr] 48)).drewN z).setCell ⟨g, sN, none⟩ u) := fun z u => (below_drewN Hb'.out z).setCell m3 u
            have Hrel := Lib.hid hrel
            have Hpush := Lib.hid hpush
            have Hset := Lib.hid hset
            have Hqs := Lib.hid hqs
            have Hbs := Lib.hid hbs
            have Hlt3 := Lib.hid hlt3
            have hql : q2.length + 1 ≤ 2199023255553 := by have := hpot.out; have := Hm.out.1; have := Hm.out.2; omega
            clear hrel hpush hset hqs hbs
            by_cases hs2 : s = -2
            · have fs : (s == -2) = true := by simpa using hs2
              clear hs2
              clear hlt3
              go_wp2_with fail
              go_quiet (fail)
              go_wp2_with (at_builtin; refine wpList_append_Own rfl _ _ 28 rfl w.heap.size 3 _ 1 8 Try.underlying28 Try.infoInt rfl (by decide) a2 q2.length c2 _ rfl (by exact Hqs.out _ _ _) _ 1 1 [.int .i64 sN] rfl (Row.new1 (by simp) rfl rfl) (by simp [Value.oneCell']) (by unfold maxLen; omega) (by omega) (by simp; omega) ?_; intro a3 c3 w3 hown3 hg3 hbk3)
              go_roundw
              case rel =>
                have h1 := Hrel.out.1
                have h2 := Hrel.out.2
                have h3 := hpot.out
                simp at h1 h2
                have hz := hg3.size
                have hrow := rowOf_apart hdis.out (by simp; omega) hbk3
                refine ⟨cur.set sN (max d 0 + xr), q2 ++ [(sN : Int)], a3, c3, j + 1, by simp, by go_num, by omega, ?_, ⟨h1, by have := Hpush.out; simpa using this, ?_⟩, ?_, ?_, hrow, ?_⟩
                · show _ ≤ _; simp; omega
                · by_cases hse : sN = xN
                  · exact ⟨max d 0 + xr, by rw [← hse, List.getElem?_set_self (by have := Hcl.out; omega)], by omega⟩
                  · exact ⟨d, by rw [List.getElem?_set_ne hse]; exact Hd.out, Hd2.out⟩
                · exact ((Hset.out _ _ (by omega)).alloc _).keptRow hdis.out hg3
                · show Own _ _ _ _ _ _ _ _; simpa using hown3
                · exact ((Hbs.out _ _).alloc (by simp; omega) _).grown hg3 (by simp; omega) (hq.out.rowBase (Nat.le_refl _))
              case measure => simp [intOf]; omega
            · have fs : (s == -2) = false := by simpa using hs2
              have hl4 : max d 0 + xr < s := by omega
              clear hs2
              clear hlt3
              go_wp2_with fail
              go_quiet (fail)
              go_wp2_with (at_builtin; refine wpList_append_Own rfl _ _ 28 rfl w.heap.size 3 _ 1 8 Try.underlying28 Try.infoInt rfl (by decide) a2 q2.length c2 _ rfl (by exact Hqs.out _ _ _) _ 1 1 [.int .i64 sN] rfl (Row.new1 (by simp) rfl rfl) (by simp [Value.oneCell']) (by unfold maxLen; omega) (by omega) (by simp; omega) ?_; intro a3 c3 w3 hown3 hg3 hbk3)
              go_roundw
              case rel =>
                have h1 := Hrel.out.1
                have h2 := Hrel.out.2
                have h3 := hpot.out
                simp at h1 h2
                have hz := hg3.size
                have hrow := rowOf_apart hdis.out (by simp; omega) hbk3
                refine ⟨cur.set sN (max d 0 + xr), q2 ++ [(sN : Int)], a3, c3, j + 1, by simp, by go_num, by omega, ?_, ⟨h1, by have := Hpush.out; simpa using this, ?_⟩, ?_, ?_, hrow, ?_⟩
                · show _ ≤ _; simp; omega
                · by_cases hse : sN = xN
                  · exact ⟨max d 0 + xr, by rw [← hse, List.getElem?_set_self (by have := Hcl.out; omega)], by omega⟩
                  · exact ⟨d, by rw [List.getElem?_set_ne hse]; exact Hd.out, Hd2.out⟩
                · exact ((Hset.out _ _ (by omega)).alloc _).keptRow hdis.out hg3
                · show Own _ _ _ _ _ _ _ _; simpa using hown3
                · exact ((Hbs.out _ _).alloc (by simp; omega) _).grown hg3 (by simp; omega) (hq.out.rowBase (Nat.le_refl _))
              case measure => simp [intOf]; omega
          · have fs : (s == -2) = false := by have : s ≠ -2 := fun h => hlt3 (.inl h); simpa using this
            have hl4 : ¬ max d 0 + xr < s := fun h => hlt3 (.inr h)
            have Hlt3 := Lib.hid hlt3
            clear hlt3
            go_wp2_with fail
            go_quiet (fail)
            go_wp2
            go_roundw
            case rel =>
              exact ⟨cur, q2, a2, c2, j + 1, rfl, by go_num, by omega, hpot, ⟨hst.out.1, hst.out.2.1.skip Hx.out (fun u hu _ => ⟨s, Hs.out, fun h => Hlt3.out (.inl h), by
                have := Hd.out; simp at hu; rw [this] at hu; cases hu
                have : ¬ max d 0 + xr < s := fun h => Hlt3.out (.inr h)
                show s ≤ max d 0 + xr; omega⟩), d, Hd.out, Hd2.out⟩, Hown'.out.drewN _, Hq'.out.drewN _, hdis, below_drewN Hb'.out _⟩
            case measure => simp [intOf]; omega
        · obtain rfl : j = bl := by omega
          go_wp2
          have hst1 := hst.out.2.1
          rw [← Hbl.out] at hst1
          have hpt := hpot.out
          have hm2 := Hm.out.2
          go_roundg (2 * pot (n * D) cur + q2.length)
          case measure => omega
          case rel => exact ⟨cur, q2, a2, c2, rfl, ⟨rfl, by omega⟩, ⟨hst.out.1, hst1.done⟩, hown, hq, hdis, hb.out⟩

end Go.Proofs.Ytadekfjgdbngdaa
