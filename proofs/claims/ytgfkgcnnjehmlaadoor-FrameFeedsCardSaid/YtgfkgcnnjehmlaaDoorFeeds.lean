/- Of any bytes, in any pieces: the law, walked. -/
import Derived.Test.YtgfkgcnnjehmlaaDoorCut
import Derived.Test.YtgfkgcnnjehmlaaDoorAll
namespace Go.Proofs.YtgfkgcnnjehmlaaDoor
open Go Go.RowKit

/-- what the law keeps: the decoder, what it has told -/
structure FeedInv (w wq : World) (Db By : Nat) (r : ByteArray) (l : Nat) (ys : List (List UInt8)) (ay : Option Addr) (cy : Nat) : Prop where
  below : Below w.heap.size w wq
  d : DecAt wq Db r l
  y : Own wq By 9 1 ay ys.length cy (ys.map strV)
  dc : w.heap.size ≤ Db ∧ Db < By ∧ By ≤ wq.heap.size
theorem FeedInv.ext {w wq w' : World} {Db By : Nat} {r : ByteArray} {l : Nat} {ys : List (List UInt8)} {ay : Option Addr} {cy : Nat} (h : FeedInv w wq Db By r l ys ay cy) (hb : Below wq.heap.size wq w') : FeedInv w w' Db By r l ys ay cy :=
  ⟨h.below.trans (hb.mono h.below.size), h.d.ext hb, h.y.ext hb, h.dc.1, h.dc.2.1, Nat.le_trans h.dc.2.2 hb.size⟩
theorem FeedInv.feed {w wq w' : World} {Db By : Nat} {r r' : ByteArray} {l l' : Nat} {ys : List (List UInt8)} {ay : Option Addr} {cy : Nat} (h : FeedInv w wq Db By r l ys ay cy) (hk : Keep Db wq w') (hc : DecAt w' Db r' l') : FeedInv w w' Db By r' l' ys ay cy := by
  obtain ⟨d1, d2, d3⟩ := h.dc
  exact ⟨hk.below h.below d1 h.below.size, hc, hk.ownRow h.y (fun he => by have := (row_lt h.y he).1; omega), d1, d2, Nat.le_trans d3 hk.size⟩
theorem FeedInv.push {w wq w' : World} {Db By : Nat} {r : ByteArray} {l : Nat} {ys ys' : List (List UInt8)} {ay ay' : Option Addr} {cy cy' : Nat} (h : FeedInv w wq Db By r l ys ay cy) (hg : wq.grownBy w' (rowOf ay cy)) (hy : Own w' By 9 1 ay' ys'.length cy' (ys'.map strV)) : FeedInv w w' Db By r l ys' ay' cy' := by
  obtain ⟨d1, d2, d3⟩ := h.dc
  exact ⟨h.below.grown hg h.below.size (fun j hj => by have := (row_lt h.y hj).1; omega), h.d.grown hg (fun he => by have := (row_lt h.y he.symm).1; omega), hy, d1, d2, Nat.le_trans d3 hg.size⟩

set_option maxRecDepth 100000 in
set_option maxHeartbeats 2000000 in
theorem feeds_any (s : ByteArray) (ap : Option Addr) (cp : Nat) (ps : List UInt8) (w : World) (hG : Glob w) (hp : Row w 1 ap ps.length (ps.map u8V)) (hs : s.size ≤ maxLen) (hpl : ps.length ≤ maxLen) :
    Calls Tryd.prog 4 #[.string s, .slice ap ps.length cp] w (Ret w (IsB True)) := by
  unfold maxLen at hs hpl
  have HG := Lib.hid hG
  have HP := Lib.hid hp
  clear hG hp
  go_enter Tryd.func4, Tryd.ntmps4
  by_cases hbig : s.size ≤ 2000 ∧ ps.length ≤ 60
  · obtain ⟨hs2, hp2⟩ := hbig
    have hs3 : (s.size : Int) ≤ 2000 := by omega
    have hp3 : (ps.length : Int) ≤ 60 := by omega
    go_wp2_with fail
    refine (new_any w).mono ?_
    rintro e w1 ⟨rfl, rfl⟩
    have hb1 := below_a1 w (.cells #[.string { data := #[] }, .int .i64 0] 51)
    have hd1 : DecAt (w.alloc (.cells #[.string { data := #[] }, .int .i64 0] 51)) w.heap.size { data := #[] } 0 := Blk.new rfl
    have hinv : FeedInv w (w.alloc (.cells #[.string { data := #[] }, .int .i64 0] 51)) w.heap.size (w.heap.size + 1) { data := #[] } 0 [] none 0 := ⟨hb1, hd1, Own.nil _ _ _ _, Nat.le_refl _, by omega, by simp⟩
    have hsz := HG.out.size
    have Hinv := Lib.hid hinv
    clear hinv hd1 hb1
    go_wp2_with fail
    go_loopw [6, 7, 8] (fun y at' i wq => ∃ (k p : Nat) (r : ByteArray) (l : Nat) (ys : List (List UInt8)) (ay : Option Addr) (cy : Nat), k ≤ ps.length + 1 ∧ p ≤ s.size ∧ y = .slice ay ys.length cy ∧ at' = .int .i64 p ∧ i = .int .i64 k ∧
      Hid (FeedInv w wq w.heap.size (w.heap.size + 1) r l ys ay cy ∧ Fed (s.data.toList.take p) ys l r.data.toList)) (fun _ _ i _ => ps.length + 1 - (intOf i).toNat)
    case atStart => exact ⟨0, 0, { data := #[] }, 0, [], none, 0, Nat.zero_le _, Nat.zero_le _, rfl, rfl, rfl, Hinv, Fed.nil⟩
    case round =>
      clear Hinv
      obtain ⟨k, p, r, l, ys, ay, cy, hk, hps, rfl, rfl, rfl, hq⟩ := hrel
      have hlq := hq.out.2.len.1
      rw [List.length_take] at hlq
      have hrl : r.data.toList.length = r.size := rfl
      have hsl : s.data.toList.length = s.size := rfl
      have hsub : IntKind.i64.wrap ((s.size : Int) - p) = ((s.size - p : Nat) : Int) := by rw [IntWalk.i64_in _ (by omega)]; omega
      have HGr := Lib.hid (HG.out.ext hq.out.1.below)
      by_cases hlt : k < ps.length
      · obtain ⟨b, hb⟩ := get_some hlt
        obtain ⟨ab, ao, rfl, v1⟩ := (HP.out.ext hq.out.1.below).elem1 hb
        have u1 : wr.cell? ⟨ab, ao + k, none⟩ = some (.int .u8 b.toNat) := v1
        have hkl : (k : Int) < ps.length := by omega
        have hbt := b.toNat_lt
        obtain ⟨n, hn⟩ : ∃ n : Nat, n = min b.toNat (s.size - p) := ⟨_, rfl⟩
        clear hb v1
        go_wp2_with fail
        have e1 : min (b.toNat : Int) ((s.size - p : Nat) : Int) = (n : Int) := by omega
        have e2 : ((p : Int) + n).toNat = p + n := by omega
        rw [e1, e2]
        clear u1 hbt
        have htd : (s.extract p (p + n)).data.toList = (s.data.toList.drop p).take n := by rw [Lib.extract_data, Nat.add_sub_cancel_left]
        have hts : (s.extract p (p + n)).size ≤ n := by simp; omega
        have hnp : p + n ≤ s.size := by omega
        have htake : s.data.toList.take p ++ (s.extract p (p + n)).data.toList = s.data.toList.take (p + n) := by rw [htd, List.take_add]
        generalize s.extract p (p + n) = t at *
        have Htake := Lib.hid htake
        obtain ⟨d1, d2, d3⟩ := hq.out.1.dc
        clear htd htake hsub hn
        refine (feed_any w.heap.size r t l wr HGr.out (by omega) hq.out.1.d (by omega) (by omega)).mono ?_
        rintro e w4 ⟨v, rfl, bs, l4, r4, a4, c4, hfed4, rfl, hown4, hdec4, hk4⟩
        have hF4 := hq.out.2.app hfed4
        rw [Htake.out] at hF4
        have hys := hF4.len.1
        rw [List.length_take] at hys
        have hge := encL_ge (ys ++ bs)
        rw [List.length_append] at hge
        have hysl : ys.length ≤ 2000 ∧ bs.length ≤ 2000 := by omega
        have HF4 := Lib.hid hF4
        have Hinv4 := Lib.hid (hq.out.1.feed hk4 hdec4)
        have Hown4 := Lib.hid hown4
        clear hq hF4 hfed4 hown4 hdec4 hk4 hys hge
        go_wp2_with (at_builtin; refine wpList_append_Own (o := ⟨some 53, _, _, _, _, _⟩) rfl _ _ 22 rfl (w.heap.size + 1) 9 _ 1 16 Tryd.underlying22 Tryd.infoStr rfl (by decide) ay ys.length cy _ rfl (by exact Hinv4.out.y) a4 bs.length c4 (bs.map strV) rfl (by exact Hown4.out.row) (by intro u hu; obtain ⟨x, -, rfl⟩ := List.mem_map.1 hu; rfl) (by unfold maxLen; omega) (by omega) (by exact Hinv4.out.dc.2.2) ?_; intro a5 c5 w5 hown5 hg5 hbk5)
        have Hinv5 := Lib.hid (Hinv4.out.push (ys' := ys ++ bs) hg5 (by simpa using hown5))
        clear hg5 hown5 hbk5 Hinv4 Hown4
        have htk : (s.extract 0 (p + n)).data.toList = s.data.toList.take (p + n) := by rw [Lib.extract_data, List.drop_zero, Nat.sub_zero]
        have htks : (s.extract 0 (p + n)).size ≤ s.size := by simp; omega
        refine (all_any (s.extract 0 (p + n)) w5 (by omega)).mono ?_
        rintro e w6 ⟨v, rfl, hb6, ws, l6, r6, a6, c6, hfed6, rfl, hown6⟩
        rw [htk] at hfed6
        obtain ⟨h1, h2, h3⟩ := HF4.out.unique hfed6
        subst h1
        subst h2
        subst h3
        have Hinv6 := Lib.hid (Hinv5.out.ext hb6)
        have Hown6 := Lib.hid hown6
        have hlen : (ys ++ bs).length ≤ 4000 := by rw [List.length_append]; omega
        have hr4 : r4.data.toList.length = r4.size := rfl
        clear hb6 hown6 hfed6 htk htks Hinv5
        rw [← List.length_append]
        generalize hzz : ys ++ bs = zs at *
        clear hzz
        go_wp2_with fail
        refine (strings_any a5 a6 c5 c6 zs zs w6 Hinv6.out.y.row Hown6.out.row (by omega)).mono ?_
        rintro e w7 ⟨v, rfl, hb7, bb, rfl, hbt2⟩
        obtain rfl : bb = true := hbt2.2 rfl
        have Hinv7 := Lib.hid (Hinv6.out.ext hb7)
        clear hb7 Hinv6 Hown6 hbt2
        go_wp2_with fail
        refine (lost_any w.heap.size r4 (l + l4) _ Hinv7.out.d).mono ?_
        rintro e w8 ⟨rfl, rfl⟩
        go_wp2_with fail
        refine (left_any w.heap.size r4 (l + l4) _ Hinv7.out.d).mono ?_
        rintro e w9 ⟨rfl, rfl⟩
        go_wp2_with fail
        go_roundw
        case rel => exact ⟨k + 1, p + n, r4, l + l4, zs, a5, c5, by omega, hnp, rfl, by go_num, by go_num, Hinv7, HF4.out⟩
        case measure => simp [intOf]; omega
      · by_cases hlast : k = ps.length
        · have hkl : decide ((k : Int) < ps.length) = false := by simp; omega
          have hkl2 : (k : Int) ≤ ps.length := by omega
          obtain ⟨n, hn⟩ : ∃ n : Nat, n = s.size - p := ⟨_, rfl⟩
          have HL := Lib.hid hlast
          clear hlast
          go_wp2_with fail
          rw [← hn]
          have hpn : p + n = s.size := by omega
          have htd : (s.extract p s.size).data.toList = (s.data.toList.drop p).take n := by rw [Lib.extract_data, hn]
          have hts : (s.extract p s.size).size ≤ n := by simp; omega
          have hnp : p + n ≤ s.size := by omega
          have htake : s.data.toList.take p ++ (s.extract p s.size).data.toList = s.data.toList.take (p + n) := by rw [htd, List.take_add]
          generalize s.extract p s.size = t at *
          have Htake := Lib.hid htake
          obtain ⟨d1, d2, d3⟩ := hq.out.1.dc
          clear htd htake hsub hn hpn
          refine (feed_any w.heap.size r t l wr HGr.out (by omega) hq.out.1.d (by omega) (by omega)).mono ?_
          rintro e w4 ⟨v, rfl, bs, l4, r4, a4, c4, hfed4, rfl, hown4, hdec4, hk4⟩
          have hF4 := hq.out.2.app hfed4
          rw [Htake.out] at hF4
          have hys := hF4.len.1
          rw [List.length_take] at hys
          have hge := encL_ge (ys ++ bs)
          rw [List.length_append] at hge
          have hysl : ys.length ≤ 2000 ∧ bs.length ≤ 2000 := by omega
          have HF4 := Lib.hid hF4
          have Hinv4 := Lib.hid (hq.out.1.feed hk4 hdec4)
          have Hown4 := Lib.hid hown4
          clear hq hF4 hfed4 hown4 hdec4 hk4 hys hge
          go_wp2_with (at_builtin; refine wpList_append_Own (o := ⟨some 53, _, _, _, _, _⟩) rfl _ _ 22 rfl (w.heap.size + 1) 9 _ 1 16 Tryd.underlying22 Tryd.infoStr rfl (by decide) ay ys.length cy _ rfl (by exact Hinv4.out.y) a4 bs.length c4 (bs.map strV) rfl (by exact Hown4.out.row) (by intro u hu; obtain ⟨x, -, rfl⟩ := List.mem_map.1 hu; rfl) (by unfold maxLen; omega) (by omega) (by exact Hinv4.out.dc.2.2) ?_; intro a5 c5 w5 hown5 hg5 hbk5)
          have Hinv5 := Lib.hid (Hinv4.out.push (ys' := ys ++ bs) hg5 (by simpa using hown5))
          clear hg5 hown5 hbk5 Hinv4 Hown4
          have htk : (s.extract 0 (p + n)).data.toList = s.data.toList.take (p + n) := by rw [Lib.extract_data, List.drop_zero, Nat.sub_zero]
          have htks : (s.extract 0 (p + n)).size ≤ s.size := by simp; omega
          refine (all_any (s.extract 0 (p + n)) w5 (by omega)).mono ?_
          rintro e w6 ⟨v, rfl, hb6, ws, l6, r6, a6, c6, hfed6, rfl, hown6⟩
          rw [htk] at hfed6
          obtain ⟨h1, h2, h3⟩ := HF4.out.unique hfed6
          subst h1
          subst h2
          subst h3
          have Hinv6 := Lib.hid (Hinv5.out.ext hb6)
          have Hown6 := Lib.hid hown6
          have hlen : (ys ++ bs).length ≤ 4000 := by rw [List.length_append]; omega
          have hr4 : r4.data.toList.length = r4.size := rfl
          clear hb6 hown6 hfed6 htk htks Hinv5
          rw [← List.length_append]
          generalize hzz : ys ++ bs = zs at *
          clear hzz
          go_wp2_with fail
          refine (strings_any a5 a6 c5 c6 zs zs w6 Hinv6.out.y.row Hown6.out.row (by omega)).mono ?_
          rintro e w7 ⟨v, rfl, hb7, bb, rfl, hbt2⟩
          obtain rfl : bb = true := hbt2.2 rfl
          have Hinv7 := Lib.hid (Hinv6.out.ext hb7)
          clear hb7 Hinv6 Hown6 hbt2
          go_wp2_with fail
          refine (lost_any w.heap.size r4 (l + l4) _ Hinv7.out.d).mono ?_
          rintro e w8 ⟨rfl, rfl⟩
          go_wp2_with fail
          refine (left_any w.heap.size r4 (l + l4) _ Hinv7.out.d).mono ?_
          rintro e w9 ⟨rfl, rfl⟩
          go_wp2_with fail
          go_roundw
          case rel => exact ⟨k + 1, p + n, r4, l + l4, zs, a5, c5, by omega, hnp, rfl, by go_num, by go_num, Hinv7, HF4.out⟩
          case measure => simp [intOf]; omega
        · have hkl2 : (ps.length : Int) < k := by omega
          go_wp2_with fail
          refine (alive_any wr HGr.out).mono ?_
          rintro e w2 ⟨v, rfl, hb2, b, rfl, hbt⟩
          obtain rfl : b = true := hbt.2 trivial
          go_wp2
          go_ret
          exact ⟨_, rfl, hq.out.1.below.trans (hb2.mono hq.out.1.below.size), isB_true trivial⟩
  · by_cases hs2 : s.size ≤ 2000
    · have hp3 : (60 : Int) < ps.length := by omega
      have hs3 : (s.size : Int) ≤ 2000 := by omega
      clear hbig
      go_wp2_with fail
      refine (alive_any w HG.out).mono ?_
      rintro e w2 ⟨v, rfl, hb2, b, rfl, hbt⟩
      obtain rfl : b = true := hbt.2 trivial
      go_wp2
      go_ret
      exact ⟨_, rfl, hb2, isB_true trivial⟩
    · have hs3 : (2000 : Int) < s.size := by omega
      clear hbig
      go_wp2_with fail
      refine (alive_any w HG.out).mono ?_
      rintro e w2 ⟨v, rfl, hb2, b, rfl, hbt⟩
      obtain rfl : b = true := hbt.2 trivial
      go_wp2
      go_ret
      exact ⟨_, rfl, hb2, isB_true trivial⟩
end Go.Proofs.YtgfkgcnnjehmlaaDoor
