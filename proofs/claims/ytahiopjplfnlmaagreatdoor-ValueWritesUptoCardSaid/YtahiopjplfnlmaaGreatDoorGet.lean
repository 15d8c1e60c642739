/- A part of a Record: walked. -/
import Derived.Test.YtahiopjplfnlmaaGreatDoorWri
namespace Go.Proofs.YtahiopjplfnlmaaGreatDoor
open Go Go.RowKit

structure GB (w W : World) (e : VD) : Prop where
  val : Blk W w.heap.size #[.int .i64 e.sort, .bool e.on, .int .i64 e.n, .string ⟨e.text.toArray⟩, .slice e.a e.list.length e.c, .slice e.ka e.keys.length e.kc] 34
  res : Blk W (w.heap.size + 1) zeroV 34
  below : Below w.heap.size w W
theorem GB.ext {w W W' : World} {e : VD} (h : GB w W e) (hb : Below W.heap.size W W') : GB w W' e := ⟨h.val.ext hb, h.res.ext hb, h.below.trans (hb.mono h.below.size)⟩
theorem stepV_at (e : VD) (x : Nm) : (∃ i y, e.sort = 5 ∧ indexI x e.keys = (i : Nat) ∧ e.list[i]? = some y ∧ stepV e.v x = some y.v) ∨ (stepV e.v x = none ∧ (e.sort ≠ 5 ∨ indexI x e.keys < 0 ∨ (e.list.length : Int) ≤ indexI x e.keys)) := by
  have h : stepV e.v x = if e.sort = 5 then (indexK x e.keys).bind fun i => (e.list.map VD.v)[i]? else none := by unfold stepV; rw [VD.v_eq]; rfl
  rw [h]
  by_cases h5 : e.sort = 5
  · rw [if_pos h5]
    cases hi : indexK x e.keys with
    | none => exact .inr ⟨rfl, .inr (.inl (by rw [indexI_none hi]; omega))⟩
    | some i =>
      rw [indexI_some hi, Option.bind_some, List.getElem?_map]
      cases hy : e.list[i]? with
      | none => exact .inr ⟨rfl, .inr (.inr (by have := List.getElem?_eq_none_iff.1 hy; omega))⟩
      | some y => exact .inl ⟨i, y, h5, rfl, hy, rfl⟩
  · rw [if_neg h5]; exact .inr ⟨rfl, .inl h5⟩
theorem getV_step (v : V) (p : List Nm) {k : Nat} {x : Nm} (h : p[k]? = some x) : getV v (p.drop k) = match stepV v x with | none => none | some y => getV y (p.drop (k + 1)) := by
  have hk := (List.getElem?_eq_some_iff.1 h)
  obtain ⟨hk, hx⟩ := hk
  rw [List.drop_eq_getElem_cons hk, hx, getV]
  cases stepV v x <;> rfl
/-- what Get answers -/
def GetE (w : World) (r : Option V) (e : Ending) (w' : World) : Prop :=
  Below w.heap.size w w' ∧ match r with
  | none => e = .returned (.tuple #[(VD.mk 0 false 0 [] none 0 [] none 0 []).val, .bool false])
  | some v => ∃ x, e = .returned (.tuple #[VD.val x, .bool true]) ∧ x.v = v ∧ ValAt w (fun _ => True) x
theorem get_end {W : World} {tm : Array Value} {R : Ending → World → Prop} {g : Nat} {u0 u1 u2 u3 u4 u5 : Value} {k : Bool} (h2 : tm.getD 4 undef = .pointer (some ⟨g, 0, none⟩)) (h3 : tm.getD 5 undef = .bool k) (hB : Blk W g #[u0, u1, u2, u3, u4, u5] 34)
    (hR : R (.returned (.tuple #[.agg #[u0, u1, u2, u3, u4, u5], .bool k])) W) : bodyPost Tryz.prog Tryz.f12 R .ret { tmps := tm, defers := [] } W := by
  have d0 := hB.cell 0
  have d1 := hB.cell 1
  have d2 := hB.cell 2
  have d3 := hB.cell 3
  have d4 := hB.cell 4
  have d5 := hB.cell 5
  simp only [List.getElem?_toArray, List.getElem?_cons_zero, List.getElem?_cons_succ] at d0 d1 d2 d3 d4 d5
  rw [Array.getD_eq_getD_getElem?] at h2 h3
  refine bodyPost_ret (v := .tuple #[.agg #[u0, u1, u2, u3, u4, u5], .bool k]) ?_ rfl hR
  simp [results, Tryz.results12, go_sem, h2, h3, d0, d1, d2, d3, d4, d5]
theorem getE_none {w W : World} {r : Option V} (h : r = none) (hb : Below w.heap.size w W) : GetE w r (.returned (.tuple #[.agg #[.int .i64 0, .bool false, .int .i64 0, .string { data := #[] }, .slice none 0 0, .slice none 0 0], .bool false])) W := by
  subst h; exact ⟨hb, rfl⟩
set_option maxHeartbeats 2000000 in
theorem get_any (d : VD) (pa : Option Addr) (pc : Nat) (p : List Nm) (w : World) (hv : ValAt w (fun _ => True) d) (hp : Row w 1 pa p.length (p.map strV)) (hl : p.length ≤ 1048576) (hs : sizeV d.v ≤ 1048576) :
    Calls Tryz.prog 12 #[d.val, .slice pa p.length pc] w (GetE w (getV d.v p)) := by
  obtain ⟨W0, hW0⟩ : ∃ W0, W0 = (w.alloc (.cells #[.int .i64 d.sort, .bool d.on, .int .i64 d.n, .string ⟨d.text.toArray⟩, .slice d.a d.list.length d.c, .slice d.ka d.keys.length d.kc] 34)).alloc (.cells #[.int .i64 0, .bool false, .int .i64 0, .string { data := #[] }, .slice none 0 0, .slice none 0 0] 34) := ⟨_, rfl⟩
  have G0 : Hid (GB w W0 d) := Lib.hid (by rw [hW0]; exact ⟨(Blk.new rfl).alloc _, Blk.new (by simp), (below_a1 w _).alloc (by simp) _⟩)
  have HV := Lib.hid hv
  have HP := Lib.hid hp
  have HS := Lib.hid hs
  rw [VD.val6]
  obtain ⟨res, hres⟩ : ∃ r, r = getV d.v p := ⟨_, rfl⟩
  rw [← hres]
  have HRES := Lib.hid hres
  clear hv hp hs hres
  go_enter Tryz.func12, Tryz.ntmps12
  go_upto_region 1 with (fail)
  rw [← hW0]
  clear hW0
  go_wp2_with fail
  go_loopw [5, 11] (fun _ i wr => ∃ (k : Nat) (e : VD), k ≤ p.length ∧ i = .int .i64 k ∧ Hid (GB w wr e) ∧ Hid (ValAt w (fun _ => True) e ∧ sizeV e.v ≤ 1048576) ∧ Hid (res = getV e.v (p.drop k))) (fun _ i _ => p.length - (intOf i).toNat)
  case atStart => exact ⟨0, d, Nat.zero_le _, rfl, G0, Lib.hid ⟨HV.out, HS.out⟩, HRES⟩
  case round =>
    obtain ⟨k, e, hk, rfl, hg, hve, hr⟩ := hrel
    by_cases hlt : k < p.length
    · obtain ⟨x, hx⟩ := get_some hlt
      have hgs := getV_step e.v p hx
      obtain ⟨pb, po, rfl, u0⟩ := (HP.out.ext hg.out.below).elem1 hx
      unfold strV at u0
      have hkl : (k : Int) < p.length := by omega
      have hsz : sizeV (.mk e.sort e.on e.n e.text (e.list.map VD.v) e.keys) ≤ 1048576 := by rw [← VD.v_eq]; exact hve.out.2
      obtain ⟨-, s2, s3, -, s5⟩ := size_parts hsz
      rw [List.length_map] at s3
      have S5 := Lib.hid s5
      obtain ⟨c0, c1, c2, c3, c4, c5⟩ := hg.out.val.six
      have Hgs := Lib.hid hgs
      have hidx := sindex_any e.ka e.kc e.keys x wr (hve.out.1.ext hg.out.below).krow s2
      have HIDX := Lib.hid hidx
      have hst := stepV_at e x
      generalize indexI x e.keys = i at *
      have HST := Lib.hid hst
      clear hx hgs s5 hsz hidx hst
      go_wp2_with fail
      refine HIDX.out.mono ?_
      rintro r w2 ⟨rfl, hb2⟩
      have hg2 := hg.out.ext hb2
      have G2 := Lib.hid hg2
      clear hb2 c0 c1 c2 c3 c4 c5 HIDX hg2 u0
      obtain ⟨c0, c1, c2, c3, c4, c5⟩ := G2.out.val.six
      have f0 := G2.out.val.free 0
      have f1 := G2.out.val.free 1
      have f2 := G2.out.val.free 2
      have f3 := G2.out.val.free 3
      have f4 := G2.out.val.free 4
      have f5 := G2.out.val.free 5
      have q0 := G2.out.res.cell 0
      have q1 := G2.out.res.cell 1
      have q2 := G2.out.res.cell 2
      have q3 := G2.out.res.cell 3
      have q4 := G2.out.res.cell 4
      have q5 := G2.out.res.cell 5
      have g0 := G2.out.res.free 0
      have g1 := G2.out.res.free 1
      have g2 := G2.out.res.free 2
      have g3 := G2.out.res.free 3
      have g4 := G2.out.res.free 4
      have g5 := G2.out.res.free 5
      unfold zeroV at q0 q1 q2 q3 q4 q5
      simp only [List.getElem?_toArray, List.getElem?_cons_zero, List.getElem?_cons_succ] at q0 q1 q2 q3 q4 q5
      rcases HST.out with ⟨j, y, h5, rfl, hy, hsv⟩ | ⟨hno, hwhy⟩
      · have hjl : j < e.list.length := (List.getElem?_eq_some_iff.1 hy).1
        have hji : (j : Int) < e.list.length := by omega
        obtain ⟨b, off, hea, v0, v1, v2, v3, v4, v5⟩ := val_at (hve.out.1.ext G2.out.below).row hy
        unfold strV at v3
        rw [hea] at c4
        have hym : y ∈ e.list := List.mem_of_getElem? hy
        have Hy : Hid (ValAt w (fun _ => True) y ∧ sizeV y.v ≤ 1048576) := Lib.hid ⟨hve.out.1.kid y hym, S5.out _ (List.mem_map_of_mem hym)⟩
        have Hr : Hid (res = getV y.v (p.drop (k + 1))) := Lib.hid (by rw [hr.out, Hgs.out, hsv])
        clear hy hsv
        go_upto_region 8 with (fail)
        have hg3 : GB w (put6 w2 w.heap.size 0 (.int .i64 y.sort) (.bool y.on) (.int .i64 y.n) (.string ⟨y.text.toArray⟩) (.slice y.a y.list.length y.c) (.slice y.ka y.keys.length y.kc)) y :=
          ⟨store6_val y G2.out.val, G2.out.res.other6 (by omega), put6_below (o := 0) G2.out.below (Nat.le_refl _)⟩
        obtain ⟨W3, hW3⟩ : ∃ W3, W3 = put6 w2 w.heap.size 0 (.int .i64 y.sort) (.bool y.on) (.int .i64 y.n) (.string ⟨y.text.toArray⟩) (.slice y.a y.list.length y.c) (.slice y.ka y.keys.length y.kc) := ⟨_, rfl⟩
        rw [← hW3] at hg3
        have G3 := Lib.hid hg3
        unfold put6 at hW3
        simp only [Nat.zero_add] at hW3
        rw [← hW3]
        clear hg3 hW3 c0 c1 c2 c3 c4 c5 f0 f1 f2 f3 f4 f5 q0 q1 q2 q3 q4 q5 g0 g1 g2 g3 g4 g5 v0 v1 v2 v3 v4 v5
        go_wp2
        go_roundw
        case rel => exact ⟨k + 1, y, by omega, by go_num, G3, Hy, Hr⟩
        case measure => simp [intOf]; omega
      · have Hno : Hid (res = none) := Lib.hid (by rw [hr.out, Hgs.out, hno])
        clear hno
        rcases hwhy with h5 | h5 | h5
        · go_wp2
          refine get_end (g := w.heap.size + 1) rfl rfl (store6 G2.out.res) ?_
          exact getE_none Hno.out (put6_below (o := 0) G2.out.below (by omega))
        · by_cases h55 : e.sort = 5
          · go_wp2
            refine get_end (g := w.heap.size + 1) rfl rfl (store6 G2.out.res) ?_
            exact getE_none Hno.out (put6_below (o := 0) G2.out.below (by omega))
          · go_wp2
            refine get_end (g := w.heap.size + 1) rfl rfl (store6 G2.out.res) ?_
            exact getE_none Hno.out (put6_below (o := 0) G2.out.below (by omega))
        · have hi0 : 0 ≤ i := by omega
          by_cases h55 : e.sort = 5
          · go_wp2
            refine get_end (g := w.heap.size + 1) rfl rfl (store6 G2.out.res) ?_
            exact getE_none Hno.out (put6_below (o := 0) G2.out.below (by omega))
          · go_wp2
            refine get_end (g := w.heap.size + 1) rfl rfl (store6 G2.out.res) ?_
            exact getE_none Hno.out (put6_below (o := 0) G2.out.below (by omega))
    · obtain rfl : k = p.length := by omega
      have G2 := hg
      obtain ⟨c0, c1, c2, c3, c4, c5⟩ := G2.out.val.six
      have q0 := G2.out.res.cell 0
      have q1 := G2.out.res.cell 1
      have q2 := G2.out.res.cell 2
      have q3 := G2.out.res.cell 3
      have q4 := G2.out.res.cell 4
      have q5 := G2.out.res.cell 5
      have g0 := G2.out.res.free 0
      have g1 := G2.out.res.free 1
      have g2 := G2.out.res.free 2
      have g3 := G2.out.res.free 3
      have g4 := G2.out.res.free 4
      have g5 := G2.out.res.free 5
      unfold zeroV at q0 q1 q2 q3 q4 q5
      simp only [List.getElem?_toArray, List.getElem?_cons_zero, List.getElem?_cons_succ] at q0 q1 q2 q3 q4 q5
      have Hs : Hid (res = some e.v) := Lib.hid (by rw [hr.out, List.drop_length]; rfl)
      go_wp2
      refine get_end (g := w.heap.size + 1) rfl rfl (store6 G2.out.res) ?_
      refine ⟨put6_below (o := 0) G2.out.below (by omega), ?_⟩
      rw [Hs.out]
      exact ⟨e, by rw [VD.val6], rfl, hve.out.1⟩
end Go.Proofs.YtahiopjplfnlmaaGreatDoor
