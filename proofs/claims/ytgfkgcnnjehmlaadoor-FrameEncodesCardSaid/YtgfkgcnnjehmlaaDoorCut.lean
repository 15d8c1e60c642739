/- However it is cut: the law, walked. -/
import Derived.Test.YtgfkgcnnjehmlaaDoorStrs
namespace Go.Proofs.YtgfkgcnnjehmlaaDoor
open Go Go.RowKit

theorem row_lt {w : World} {base : Nat} {e : TypeId} {sz : Nat} {a : Option Addr} {n cap : Nat} {xs : List Value} (h : Own w base e sz a n cap xs) {j : Nat} (hr : rowOf a cap = some j) : base ≤ j ∧ j < w.heap.size := by
  have hc : 0 < cap := by rcases Nat.eq_zero_or_pos cap with h0 | h0; (subst h0; simp [rowOf] at hr); exact h0
  exact h.size hc (g := j) (by rw [rowOf, if_neg (by omega)] at hr; exact hr)
theorem Keep.ownRow {b : Nat} {w w' : World} (h : Keep b w w') {base : Nat} {e : TypeId} {sz : Nat} {a : Option Addr} {n cap : Nat} {xs : List Value} (o : Own w base e sz a n cap xs) (hb : rowOf a cap ≠ some b) : Own w' base e sz a n cap xs := by
  by_cases hc : cap = 0
  · have := o.le; exact ⟨o.1, .inl ⟨by omega, hc, fun _ hj => o.base hj⟩⟩
  · exact o.congr fun j hj hlt => h.2 j hlt (fun he => hb (by rw [rowOf, if_neg hc, hj, he]))
theorem Own.keptR {w w' : World} {base : Nat} {e : TypeId} {sz : Nat} {a : Option Addr} {n cap : Nat} {xs : List Value} {row : Option Nat} (o : Own w base e sz a n cap xs) (hg : w.grownBy w' row) (hne : ∀ j, rowOf a cap = some j → row ≠ some j) : Own w' base e sz a n cap xs := by
  by_cases hc : cap = 0
  · have := o.le; exact ⟨o.1, .inl ⟨by omega, hc, fun _ hj => o.base hj⟩⟩
  · exact o.congr fun j hj hlt => hg.block j hlt (fun he => hne j (by rw [rowOf, if_neg hc, hj]) he.symm)

/-- what the law keeps: two decoders, what the first has told, what the second has told -/
structure CutInv (w wq : World) (Db Cb By : Nat) (rd : ByteArray) (ld : Nat) (xs : List (List UInt8)) (ax : Option Addr) (cx : Nat) (r : ByteArray) (l : Nat) (ys : List (List UInt8)) (ay : Option Addr) (cy : Nat) : Prop where
  below : Below w.heap.size w wq
  d : DecAt wq Db rd ld
  c : DecAt wq Cb r l
  x : Own wq w.heap.size 9 1 ax xs.length cx (xs.map strV)
  y : Own wq By 9 1 ay ys.length cy (ys.map strV)
  xrow : ∀ j, rowOf ax cx = some j → j < By ∧ j ≠ Cb ∧ j ≠ Db
  dc : w.heap.size ≤ Db ∧ Db < Cb ∧ Cb < By ∧ By ≤ wq.heap.size

theorem CutInv.ext {w wq w' : World} {Db Cb By : Nat} {rd : ByteArray} {ld : Nat} {xs : List (List UInt8)} {ax : Option Addr} {cx : Nat} {r : ByteArray} {l : Nat} {ys : List (List UInt8)} {ay : Option Addr} {cy : Nat}
    (h : CutInv w wq Db Cb By rd ld xs ax cx r l ys ay cy) (hb : Below wq.heap.size wq w') : CutInv w w' Db Cb By rd ld xs ax cx r l ys ay cy :=
  ⟨h.below.trans (hb.mono h.below.size), h.d.ext hb, h.c.ext hb, h.x.ext hb, h.y.ext hb, h.xrow, h.dc.1, h.dc.2.1, h.dc.2.2.1, Nat.le_trans h.dc.2.2.2 hb.size⟩
theorem CutInv.feed {w wq w' : World} {Db Cb By : Nat} {rd : ByteArray} {ld : Nat} {xs : List (List UInt8)} {ax : Option Addr} {cx : Nat} {r r' : ByteArray} {l l' : Nat} {ys : List (List UInt8)} {ay : Option Addr} {cy : Nat}
    (h : CutInv w wq Db Cb By rd ld xs ax cx r l ys ay cy) (hk : Keep Cb wq w') (hc : DecAt w' Cb r' l') : CutInv w w' Db Cb By rd ld xs ax cx r' l' ys ay cy := by
  obtain ⟨d1, d2, d3, d4⟩ := h.dc
  exact ⟨hk.below h.below (by omega) (h.below.size), (hk.2 Db h.d.lt (by omega)).trans h.d, hc, hk.ownRow h.x (fun he => (h.xrow _ he).2.1 rfl), hk.ownRow h.y (fun he => by have := (row_lt h.y he).1; omega), h.xrow, d1, d2, d3, Nat.le_trans d4 hk.size⟩
theorem CutInv.push {w wq w' : World} {Db Cb By : Nat} {rd : ByteArray} {ld : Nat} {xs : List (List UInt8)} {ax : Option Addr} {cx : Nat} {r : ByteArray} {l : Nat} {ys ys' : List (List UInt8)} {ay ay' : Option Addr} {cy cy' : Nat}
    (h : CutInv w wq Db Cb By rd ld xs ax cx r l ys ay cy) (hg : wq.grownBy w' (rowOf ay cy)) (hy : Own w' By 9 1 ay' ys'.length cy' (ys'.map strV)) : CutInv w w' Db Cb By rd ld xs ax cx r l ys' ay' cy' := by
  obtain ⟨d1, d2, d3, d4⟩ := h.dc
  exact ⟨h.below.grown hg h.below.size (fun j hj => by have := (row_lt h.y hj).1; omega), h.d.grown hg (fun he => by have := (row_lt h.y he.symm).1; omega), h.c.grown hg (fun he => by have := (row_lt h.y he.symm).1; omega),
    Own.keptR h.x hg (fun j hj he => by have := (row_lt h.y he).1; have := (h.xrow j hj).1; omega), hy, h.xrow, d1, d2, d3, Nat.le_trans d4 hg.size⟩

theorem encL_ge (l : List (List UInt8)) : l.length ≤ (encL l).length := by
  induction l with
  | nil => simp
  | cons x l ih => simp only [encL, List.length_cons, List.length_append, headL, wordL]; omega

def u8V (b : UInt8) : Value := .int .u8 b.toNat

set_option maxRecDepth 100000 in
set_option maxHeartbeats 1000000 in
theorem cut_any (s : ByteArray) (ap : Option Addr) (cp : Nat) (ps : List UInt8) (w : World) (hG : Glob w) (hp : Row w 1 ap ps.length (ps.map u8V)) (hs : s.size ≤ maxLen) (hpl : ps.length ≤ maxLen) :
    Calls Tryd.prog 5 #[.string s, .slice ap ps.length cp] w (Ret w (IsB True)) := by
  unfold maxLen at hs hpl
  have HG := Lib.hid hG
  have HP := Lib.hid hp
  clear hG hp
  go_enter Tryd.func5, Tryd.ntmps5
  by_cases hbig : s.size ≤ 2000 ∧ ps.length ≤ 60
  · obtain ⟨hs2, hp2⟩ := hbig
    have hs3 : (s.size : Int) ≤ 2000 := by omega
    have hp3 : (ps.length : Int) ≤ 60 := by omega
    go_wp2_with fail
    refine (new_any w).mono ?_
    rintro e w1 ⟨rfl, rfl⟩
    have hb1 := below_a1 w (.cells #[.string { data := #[] }, .int .i64 0] 51)
    have hd1 : DecAt (w.alloc (.cells #[.string { data := #[] }, .int .i64 0] 51)) w.heap.size { data := #[] } 0 := Blk.new rfl
    have hsz := HG.out.size
    go_wp2_with fail
    refine (feed_any w.heap.size { data := #[] } s 0 _ (HG.out.ext hb1) HG.out.size hd1 (by show 0 + s.size ≤ _; omega) (by decide)).mono ?_
    rintro e w2 ⟨v, rfl, xs, ld, rd, ax, cx, hfed, rfl, hx, hd2, hk2⟩
    have hFx : Fed s.data.toList xs ld rd.data.toList := by simpa using hfed
    have hb2 : Below w.heap.size w w2 := hk2.below hb1 (Nat.le_refl _) hb1.size
    have hsz2 := hd2.lt
    go_wp2_with fail
    refine (new_any w2).mono ?_
    rintro e w3 ⟨rfl, rfl⟩
    have hinv : CutInv w (w2.alloc (.cells #[.string { data := #[] }, .int .i64 0] 51)) w.heap.size w2.heap.size (w2.heap.size + 1) rd ld xs ax cx { data := #[] } 0 [] none 0 := by
      refine ⟨hb2.alloc hb2.size _, by have := hd2.alloc (.cells #[.string { data := #[] }, .int .i64 0] 51); rw [Nat.zero_add] at this; exact this, Blk.new rfl, (hx.mono (by simp)).alloc _, Own.nil _ _ _ _, fun j hj => ?_, Nat.le_refl _, hsz2, by omega, by simp⟩
      have := row_lt hx hj
      simp at this
      omega
    have Hinv := Lib.hid hinv
    have HFx := Lib.hid hFx
    have hlen := hFx.len.1
    have hsl : s.data.toList.length = s.size := rfl
    have Hxs : Hid (∀ x ∈ xs, x.length ≤ 65536) := hFx.len.2
    clear hinv hFx hfed hx hd2 hk2 hb1 hb2 hd1 hsz2
    go_wp2_with fail
    generalize w2.heap.size = Cb at *
    go_loopw [8, 9, 10] (fun y at' i wq => ∃ (k p : Nat) (r : ByteArray) (l : Nat) (ys : List (List UInt8)) (ay : Option Addr) (cy : Nat), k ≤ ps.length ∧ p ≤ s.size ∧ y = .slice ay ys.length cy ∧ at' = .int .i64 p ∧ i = .int .i64 k ∧
      Hid (CutInv w wq w.heap.size Cb (Cb + 1) rd ld xs ax cx r l ys ay cy ∧ Fed (s.data.toList.take p) ys l r.data.toList)) (fun _ _ i _ => ps.length - (intOf i).toNat)
    case atStart => exact ⟨0, 0, { data := #[] }, 0, [], none, 0, Nat.zero_le _, Nat.zero_le _, rfl, rfl, rfl, Hinv, Fed.nil⟩
    case round =>
      clear Hinv
      obtain ⟨k, p, r, l, ys, ay, cy, hk, hps, rfl, rfl, rfl, hq⟩ := hrel
      have hlq := hq.out.2.len.1
      rw [List.length_take] at hlq
      have hrl : r.data.toList.length = r.size := rfl
      by_cases hlt : k < ps.length
      · obtain ⟨b, hb⟩ := get_some hlt
        obtain ⟨ab, ao, rfl, v1⟩ := (HP.out.ext hq.out.1.below).elem1 hb
        have u1 : wr.cell? ⟨ab, ao + k, none⟩ = some (.int .u8 b.toNat) := v1
        have hkl : (k : Int) < ps.length := by omega
        have hbt := b.toNat_lt
        obtain ⟨n, hn⟩ : ∃ n : Nat, n = min b.toNat (s.size - p) := ⟨_, rfl⟩
        have hsub : IntKind.i64.wrap ((s.size : Int) - p) = ((s.size - p : Nat) : Int) := by rw [IntWalk.i64_in _ (by omega)]; omega
        clear hb v1
        have hGr := HG.out.ext hq.out.1.below
        have HGr := Lib.hid hGr
        clear hGr
        go_wp2_with fail
        have e1 : min (b.toNat : Int) ((s.size - p : Nat) : Int) = (n : Int) := by omega
        have e2 : ((p : Int) + n).toNat = p + n := by omega
        rw [e1, e2]
        have htd : (s.extract p (p + n)).data.toList = (s.data.toList.drop p).take n := by rw [Lib.extract_data, Nat.add_sub_cancel_left]
        have hts : (s.extract p (p + n)).size ≤ n := by simp; omega
        have hnp : p + n ≤ s.size := by omega
        have htake : s.data.toList.take p ++ (s.extract p (p + n)).data.toList = s.data.toList.take (p + n) := by rw [htd, List.take_add]
        generalize s.extract p (p + n) = t at *
        have Htake := Lib.hid htake
        obtain ⟨d1, d2, d3, d4⟩ := hq.out.1.dc
        clear htd htake hsub hn e1 e2 u1 hbt
        refine (feed_any Cb r t l wr HGr.out (by omega) hq.out.1.c (by omega) (by omega)).mono ?_
        rintro e w4 ⟨v, rfl, bs, l4, r4, a4, c4, hfed4, rfl, hown4, hdec4, hk4⟩
        have hF4 := hq.out.2.app hfed4
        rw [Htake.out] at hF4
        have hys := hF4.len.1
        rw [List.length_take] at hys
        have hge := encL_ge (ys ++ bs)
        rw [List.length_append] at hge
        have hysl : ys.length ≤ 2000 ∧ bs.length ≤ 2000 := by omega
        have HF4 := Lib.hid hF4
        have Hinv4 := Lib.hid (hq.out.1.feed hk4 hdec4)
        have Hown4 := Lib.hid hown4
        clear hq hF4 hfed4 hown4 hdec4 hk4 hys
        go_wp2_with (at_builtin; refine wpList_append_Own (o := ⟨some 53, _, _, _, _, _⟩) rfl _ _ 22 rfl (Cb + 1) 9 _ 1 16 Tryd.underlying22 Tryd.infoStr rfl (by decide) ay ys.length cy _ rfl (by exact Hinv4.out.y) a4 bs.length c4 (bs.map strV) rfl (by exact Hown4.out.row) (by intro u hu; obtain ⟨x, -, rfl⟩ := List.mem_map.1 hu; rfl) (by unfold maxLen; omega) (by omega) (by exact Hinv4.out.dc.2.2.2) ?_; intro a5 c5 w5 hown5 hg5 hbk5)
        have Hinv5 := Lib.hid (Hinv4.out.push (ys' := ys ++ bs) hg5 (by simpa using hown5))
        clear hg5 hown5 hbk5 Hinv4 Hown4
        go_roundw
        case rel =>
          exact ⟨k + 1, p + n, r4, l + l4, ys ++ bs, a5, c5, by omega, hnp, by simp, by go_num, by go_num, Hinv5, HF4.out⟩
        case measure => simp [intOf]; omega
      · obtain rfl : k = ps.length := by omega
        have hGr := HG.out.ext hq.out.1.below
        have HGr := Lib.hid hGr
        clear hGr
        go_wp2_with fail
        have htd : (s.extract p s.size).data.toList = s.data.toList.drop p := Lib.extract_to_end _ _
        have hts : (s.extract p s.size).size ≤ s.size - p := by simp
        have htake : s.data.toList.take p ++ (s.extract p s.size).data.toList = s.data.toList := by rw [htd, List.take_append_drop]
        generalize s.extract p s.size = t at *
        have Htake := Lib.hid htake
        obtain ⟨d1, d2, d3, d4⟩ := hq.out.1.dc
        clear htd htake
        refine (feed_any Cb r t l wr HGr.out (by omega) hq.out.1.c (by omega) (by omega)).mono ?_
        rintro e w4 ⟨v, rfl, bs, l4, r4, a4, c4, hfed4, rfl, hown4, hdec4, hk4⟩
        have hF4 := hq.out.2.app hfed4
        rw [Htake.out] at hF4
        obtain ⟨hu1, hu2, hu3⟩ := HFx.out.unique hF4
        have hge := encL_ge (ys ++ bs)
        rw [List.length_append] at hge
        have hys := hF4.len.1
        have hysl : ys.length ≤ 2000 ∧ bs.length ≤ 2000 := by omega
        have Hinv4 := Lib.hid (hq.out.1.feed hk4 hdec4)
        have Hown4 := Lib.hid hown4
        have Hu : Hid (ys ++ bs = xs ∧ l + l4 = ld ∧ r4.data.toList = rd.data.toList) := ⟨hu1, hu2, hu3⟩
        clear hq hF4 hfed4 hown4 hdec4 hk4 hys hu1 hu2 hu3
        go_wp2_with (at_builtin; refine wpList_append_Own (o := ⟨some 63, _, _, _, _, _⟩) rfl _ _ 22 rfl (Cb + 1) 9 _ 1 16 Tryd.underlying22 Tryd.infoStr rfl (by decide) ay ys.length cy _ rfl (by exact Hinv4.out.y) a4 bs.length c4 (bs.map strV) rfl (by exact Hown4.out.row) (by intro u hu; obtain ⟨x, -, rfl⟩ := List.mem_map.1 hu; rfl) (by unfold maxLen; omega) (by omega) (by exact Hinv4.out.dc.2.2.2) ?_; intro a5 c5 w5 hown5 hg5 hbk5)
        have Hinv5 := Lib.hid (Hinv4.out.push (ys' := ys ++ bs) hg5 (by simpa using hown5))
        obtain ⟨hu1, hu2, hu3⟩ := Hu.out
        have hrr : r4 = rd := by
          obtain ⟨⟨x1⟩⟩ := r4
          obtain ⟨⟨x2⟩⟩ := rd
          have : x1 = x2 := hu3
          rw [this]
        subst hrr
        subst hu2
        have el : ys.length + bs.length = xs.length := by rw [← hu1, List.length_append]
        rw [el]
        rw [hu1] at Hinv5
        obtain ⟨z, hz⟩ : ∃ z : ByteArray, z = ⟨(encL xs).toArray⟩ := ⟨_, rfl⟩
        have hzs : z.size = (encL xs).length := by rw [hz]; simp [ByteArray.size]
        have Hz := Lib.hid hz
        have hxsl : xs.length ≤ 4000 := by omega
        clear hg5 hown5 hbk5 Hinv4 Hown4 hu3 hz Hu hu1 HGr Htake hlq
        refine (encode_any ax cx xs w5 (HG.out.ext Hinv5.out.below) Hinv5.out.x.row (by omega)).mono ?_
        rintro e w6 ⟨v, rfl, hb6, henc⟩
        rcases henc with ⟨-, rfl⟩ | ⟨hno, _⟩
        rotate_left
        · exact absurd Hxs.out hno
        have hsz : strV (encL xs) = .string z := by rw [Hz.out]; rfl
        rw [hsz]
        have Hinv6 := Lib.hid (Hinv5.out.ext hb6)
        clear hb6 hsz Hinv5
        go_wp2_with fail
        refine (alive_any w6 (HG.out.ext Hinv6.out.below)).mono ?_
        rintro e w7 ⟨v, rfl, hb7, bb, rfl, hbt⟩
        obtain rfl : bb = true := hbt.2 trivial
        have Hinv7 := Lib.hid (Hinv6.out.ext hb7)
        clear hb7 Hinv6 hbt
        go_wp2_with fail
        refine (strings_any ax a5 cx c5 xs xs w7 Hinv7.out.x.row Hinv7.out.y.row (by omega)).mono ?_
        rintro e w8 ⟨v, rfl, hb8, bb, rfl, hbt⟩
        obtain rfl : bb = true := hbt.2 rfl
        have Hinv8 := Lib.hid (Hinv7.out.ext hb8)
        clear hb8 Hinv7 hbt
        go_wp2_with fail
        refine (lost_any w.heap.size r4 (l + l4) _ Hinv8.out.d).mono ?_
        rintro e w9 ⟨rfl, rfl⟩
        go_wp2_with fail
        refine (lost_any Cb r4 (l + l4) _ Hinv8.out.c).mono ?_
        rintro e w9 ⟨rfl, rfl⟩
        go_wp2_with fail
        refine (left_any w.heap.size r4 (l + l4) _ Hinv8.out.d).mono ?_
        rintro e w9 ⟨rfl, rfl⟩
        go_wp2_with fail
        refine (left_any Cb r4 (l + l4) _ Hinv8.out.c).mono ?_
        rintro e w9 ⟨rfl, rfl⟩
        go_wp2_with fail
        refine (lost_any w.heap.size r4 (l + l4) _ Hinv8.out.d).mono ?_
        rintro e w9 ⟨rfl, rfl⟩
        go_wp2_with fail
        refine (left_any w.heap.size r4 (l + l4) _ Hinv8.out.d).mono ?_
        rintro e w9 ⟨rfl, rfl⟩
        have hr4 : r4.data.toList.length = r4.size := rfl
        have hsum : ((l : Int) + l4 + (encL xs).length + r4.size) = s.size := by omega
        have hsum2 : (((l : Int) + l4 + (encL xs).length + r4.size) == s.size) = true := by rw [hsum]; simp
        clear hsum
        go_wp2
        go_ret
        exact ⟨_, rfl, Hinv8.out.below, isB_true trivial⟩
  · by_cases hs2 : s.size ≤ 2000
    · have hp3 : (60 : Int) < ps.length := by omega
      have hs3 : (s.size : Int) ≤ 2000 := by omega
      clear hbig
      go_wp2_with fail
      refine (alive_any w HG.out).mono ?_
      rintro e w2 ⟨v, rfl, hb2, b, rfl, hbt⟩
      obtain rfl : b = true := hbt.2 trivial
      go_wp2
      go_ret
      exact ⟨_, rfl, hb2, isB_true trivial⟩
    · have hs3 : (2000 : Int) < s.size := by omega
      clear hbig
      go_wp2_with fail
      refine (alive_any w HG.out).mono ?_
      rintro e w2 ⟨v, rfl, hb2, b, rfl, hbt⟩
      obtain rfl : b = true := hbt.2 trivial
      go_wp2
      go_ret
      exact ⟨_, rfl, hb2, isB_true trivial⟩
end Go.Proofs.YtgfkgcnnjehmlaaDoor
