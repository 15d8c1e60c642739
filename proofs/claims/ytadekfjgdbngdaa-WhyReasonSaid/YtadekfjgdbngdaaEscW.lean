/- The program's escapes, walked. -/
import Derived.Test.YtadekfjgdbngdaaRefEsc
import Derived.Test.YtadekfjgdbngdaaCome2
import Derived.Deep.DeepCutAuto
namespace Go.Proofs.Ytadekfjgdbngdaa
open Go Go.RowKit

/-- the table of what comes to each, for the first k -/
structure ComeTab (w : World) (B g gc n : Nat) (C : Nat → List Int) (k : Nat) (xs : List Value) (tb : Nat → Option Addr × Nat) : Prop where
  own : Own w B 28 1 (some ⟨gc, 0, none⟩) n n xs
  cell : ∀ i, i < k → xs[i]? = some (.slice (tb i).1 n (tb i).2)
  row : ∀ i, i < k → Row w 1 (tb i).1 n ((C i).map (Value.int .i64)) ∧ blockOf (tb i).1 ≠ some g ∧ blockOf (tb i).1 ≠ some gc

theorem ComeTab.ext {w w' : World} {B g gc n : Nat} {C : Nat → List Int} {k : Nat} {xs : List Value} {tb : Nat → Option Addr × Nat} (h : ComeTab w B g gc n C k xs tb) (hb : Below w.heap.size w w') : ComeTab w' B g gc n C k xs tb :=
  ⟨h.own.ext hb, h.cell, fun i hi => ⟨(h.row i hi).1.ext hb, (h.row i hi).2⟩⟩

theorem ComeTab.put {w : World} {B g gc n : Nat} {C : Nat → List Int} {k : Nat} {xs : List Value} {tb : Nat → Option Addr × Nat} (h : ComeTab w B g gc n C k xs tb) (hk : k < n) {a : Option Addr} {c : Nat} (hr : Row w 1 a n ((C k).map (Value.int .i64)))
    (h1 : blockOf a ≠ some g) (h2 : blockOf a ≠ some gc) : ComeTab (w.setCell ⟨gc, k, none⟩ (.slice a n c)) B g gc n C (k + 1) (xs.set k (.slice a n c)) (fun i => if i = k then (a, c) else tb i) := by
  refine ⟨h.own.set0 hk _, fun i hi => ?_, fun i hi => ?_⟩
  · have hxl : xs.length = n := by have := h.own.1; omega
    by_cases hik : i = k
    · subst hik; simp only [if_true]; exact List.getElem?_set_self (by omega)
    · simp only [if_neg hik]; rw [List.getElem?_set_ne (fun e => hik e.symm)]; exact h.cell i (by omega)
  · by_cases hik : i = k
    · subst hik; simp only [if_true]; exact ⟨hr.setCell_other h2 _, h1, h2⟩
    · simp only [if_neg hik]
      obtain ⟨q1, q2, q3⟩ := h.row i (by omega)
      exact ⟨q1.setCell_other q3 _, q2, q3⟩

theorem Try.infoIntsRow : (Try.prog.info? 28).map (fun i => (i.zero, i.size, i.bytes)) = some (some (.slice none 0 0), 1, 24) := by kernel_rfl

set_option maxRecDepth 100000 in
set_option maxHeartbeats 4000000 in
theorem escapes_any (gx D : Nat) (p : Int) (locs : List LocD) (edges : List EdgeD) (C : Nat → List Int) (w : World) (hG : MadeG w gx locs edges p) (hR : RightG locs edges p) (hf : Fit locs edges D) (hC : ComeAll edges locs.length C) :
    Calls Try.prog 36 #[.pointer (some ⟨gx, 0, none⟩)] w (Ret w (EscV w.heap.size locs C)) := by
  have hmost := hR.most
  have htwo := hR.two
  have HR := Lib.hid hR
  have HC := Lib.hid hC
  have HG := Lib.hid hG
  have HF := Lib.hid hf
  obtain ⟨aL, cL, aE, cE, gb, g0, g1, g2, g3, hrL, -, -⟩ := hG.cells
  have HL := Lib.hid hrL
  have hgx := cell_lt g0
  clear hG hR hC hf g1 g2 g3 hrL
  obtain ⟨i0, hi, hz0, hz1, hz2⟩ := info_parts Try.infoBool
  obtain ⟨j0, hj, hy0, hy1, hy2⟩ := info_parts Try.infoIntsRow
  have Hi := Lib.hid hi
  have Hj := Lib.hid hj
  clear hi hj
  go_enter Try.func36, Try.ntmps36
  go_wp2_with (at_make; refine wpList_make_full (o := ⟨some 17, _, _, _, _, _⟩) _ rfl _ _ 66 rfl w.heap.size 4 i0 (.bool false) 1 Try.underlying66 Hi.out hz0 hz1 _ _ _ _ locs.length rfl rfl rfl rfl ?b1 (by unfold maxLen; omega) (Nat.le_refl _) ?_)
  case b1 => first | omega | (rw [hz2]; omega)
  intro w1 hown hg
  simp only [toList_madeCells_one] at hown
  obtain ⟨a', cap', he, hown', -, -⟩ := Own.ofOwns hown
  simp only [Value.slice.injEq, true_and] at he
  obtain ⟨rfl, rfl⟩ := he
  have hsz : w.heap.size < w1.heap.size := (hown'.size (by omega) rfl).2
  have hb1 : Below w.heap.size w w1 := (Below.refl _ _).grown hg (Nat.le_refl _) (fun k h => by cases h)
  have e0 : List.replicate locs.length (Value.bool false) = (List.replicate locs.length false).map Value.bool := by rw [List.map_replicate]
  rw [e0] at hown'
  have Hown := Lib.hid hown'
  have Hb1 := Lib.hid hb1
  have g01 := below_ext hb1 g0
  clear hown hown' hg hb1 e0
  generalize hgg : w.heap.size = g at *
  have Hgg := Lib.hid hgg
  clear hgg
  go_wp2_with (at_make; refine wpList_make_full (o := ⟨some 24, _, _, _, _, _⟩) _ rfl _ _ 56 rfl g 28 j0 (.slice none 0 0) 1 Try.underlying56 Hj.out hy0 hy1 _ _ _ _ locs.length rfl rfl rfl rfl ?d1 (by unfold maxLen; omega) (by omega) ?_)
  case d1 => first | omega | (rw [hy2]; omega)
  intro w2 hown2 hg2
  simp only [toList_madeCells_one] at hown2
  obtain ⟨a', cap', he, hown2', -, -⟩ := Own.ofOwns hown2
  simp only [Value.slice.injEq, true_and] at he
  obtain ⟨rfl, rfl⟩ := he
  have hsz2 : w1.heap.size < w2.heap.size := (hown2'.size (by omega) rfl).2
  generalize hgc : w1.heap.size = gc at *
  have hb2 : Below g w w2 := Hb1.out.grown hg2 (by omega) (fun k h => by cases h)
  have Hout2 := Lib.hid (Hown.out.kept hg2 (.inr (by simp [blockOf])))
  have Htab : Hid (ComeTab w2 g g gc locs.length C 0 (List.replicate locs.length (.slice none 0 0)) (fun _ => (none, 0))) := ⟨hown2', fun i h => by omega, fun i h => by omega⟩
  have Hb2 := Lib.hid hb2
  clear hown2 hown2' hg2 hb2 Hown Hb1 hgc
  go_wp2_with fail
  go_loopw [27] (fun i wr => ∃ (k : Nat) (xs : List Value) (tb : Nat → Option Addr × Nat), k ≤ locs.length ∧ i = .int .i64 k ∧ Hid (ComeTab wr g g gc locs.length C k xs tb) ∧ Hid (Own wr g 4 1 (some ⟨g, 0, none⟩) locs.length locs.length ((List.replicate locs.length false).map Value.bool)) ∧ Hid (Below g w wr)) (fun i _ => locs.length - (intOf i).toNat)
  case atStart => exact ⟨0, _, _, Nat.zero_le _, rfl, Htab, Hout2, Hb2⟩
  case round =>
    clear Htab Hout2 Hb2
    obtain ⟨k, xs, tb, hk, rfl, htab, hown, hb⟩ := hrel
    by_cases hlt : k < locs.length
    · have hgs : gc < wr.heap.size := (htab.out.own.size (by omega) rfl).2
      have hbw : Below w.heap.size w wr := by rw [Hgg.out]; exact hb.out
      have Hbw := Lib.hid hbw
      clear hbw
      go_wp2_with fail
      refine (come_any gx k D p locs edges wr (HG.out.ext Hbw.out) HR.out hlt HF.out.deref HF.out.m HF.out.d HF.out.e).mono ?_
      rintro e w3 ⟨v, rfl, hb3, l, hl, a, cap, rfl, hownC, -⟩
      obtain rfl := hl.unique (HC.out k hlt)
      have hll := hl.len
      have h1 : blockOf a ≠ some g := fun he => by have := hownC.base he; omega
      have h2 : blockOf a ≠ some gc := fun he => by have := hownC.base he; omega
      have hrow := hownC.row
      rw [hll] at hrow ⊢
      have htab3 := htab.out.ext hb3
      obtain ⟨q1, q2, q3, q4⟩ := htab3.own.at0 (j := k) hlt
      obtain ⟨u, hu⟩ := get_some (l := xs) (i := k) (by have := htab3.own.1; omega)
      rw [hu] at q2
      have hput := htab3.put hlt hrow h1 h2 (c := cap)
      have hown3 := (hown.out.ext hb3).setCell_other (p := ⟨gc, k, none⟩) (by simp [blockOf]; omega) (.slice a locs.length cap)
      have hbb := (hb.out.trans (hb3.mono (by omega))).setCell (p := ⟨gc, k, none⟩) (by show g ≤ gc; omega) (.slice a locs.length cap)
      have Hput := Lib.hid hput
      have Hown3 := Lib.hid hown3
      have Hbb := Lib.hid hbb
      clear hput hown3 hbb htab3 hrow hownC hb3 hl hll h1 h2 hu
      go_wp2
      go_roundw
      case rel => exact ⟨k + 1, _, _, by omega, by go_num, Hput, Hown3, Hbb⟩
      case measure => simp [intOf]; omega
    · obtain hkn : k = locs.length := by omega
      have hbw : Below w.heap.size w wr := by rw [Hgg.out]; exact hb.out
      have g0r := below_ext hbw g0
      have htab' := htab.out
      rw [hkn] at htab'
      have Htab := Lib.hid htab'
      have HLr := Lib.hid (HL.out.ext hbw)
      have haLg : blockOf aL ≠ some g := fun he => by have := HL.out.lt (by omega) he; have := Hgg.out; omega
      have HaL := Lib.hid haLg
      have hgs : gc < wr.heap.size := (htab.out.own.size (by omega) rfl).2
      have hgg : g < gc := by omega
      clear haLg htab' hbw hkn hk htab
      obtain ⟨n0, hn0, x0, x1, x2⟩ := info_parts Try.infoInt
      have Hn0 := Lib.hid hn0
      clear hn0
      go_wp2_with (at_make; refine wpList_make_own (o := ⟨some 43, _, _, _, _, _⟩) _ rfl _ _ 28 rfl wr.heap.size 3 n0 (.int .i64 0) 1 Try.underlying28 Hn0.out x0 x1 _ _ _ locs.length rfl rfl rfl ?z1 (by unfold maxLen; omega) (Nat.le_refl _) ?_)
      case z1 => first | omega | (rw [x2]; omega)
      intro w4 hown4 hg4
      obtain ⟨a4, cap4, he, hown4', -, -⟩ := Own.ofOwns hown4
      simp only [Value.slice.injEq, true_and] at he
      obtain ⟨rfl, rfl⟩ := he
      generalize hB2 : wr.heap.size = B2 at *
      obtain ⟨Wt, rfl⟩ : ∃ Wt : World, Wt = wr := ⟨_, rfl⟩
      have HB2 := Lib.hid hB2
      have hbut : But B2 g Wt w4 := But.grown hg4 (by omega) (fun k h => by cases h)
      have hb4 : Below g w w4 := hb.out.grown hg4 (by omega) (fun k h => by cases h)
      have hout4 := hown.out.kept hg4 (.inr (by simp [blockOf]))
      have g04 := but_cell hbut g0r (by omega) (by show gx ≠ g; omega)
      have Hbut := Lib.hid hbut
      have Hb4 := Lib.hid hb4
      have Hout4 := Lib.hid hout4
      have Hown4 := Lib.hid hown4'
      have hs4 : B2 ≤ w4.heap.size := by have := hg4.size; omega
      have Hs4 := Lib.hid hs4
      clear hown4 hown4' hg4 hbut hb4 hout4 hown hb hB2 hs4
      go_wp2_with fail
      go_loopw [6, 50] (fun todo i wz => ∃ (k : Nat) (a : Option Addr) (c : Nat), k ≤ locs.length ∧ i = .int .i64 k ∧ todo = .slice a k c ∧ Hid (Own wz B2 3 1 a k c ((upto k).map (Value.int .i64))) ∧ Hid (Own wz g 4 1 (some ⟨g, 0, none⟩) locs.length locs.length ((List.replicate locs.length false).map Value.bool)) ∧
        Hid (But B2 g Wt wz ∧ Below g w wz ∧ B2 ≤ wz.heap.size)) (fun _ i _ => locs.length - (intOf i).toNat)
      case atStart => exact ⟨0, _, _, Nat.zero_le _, rfl, rfl, Hown4, Hout4, ⟨Hbut.out, Hb4.out, Hs4.out⟩⟩
      case round =>
        have Hs0 : Hid (EscSt locs.length C (lpOf locs) (List.replicate locs.length false)) := ⟨by simp, fun i hi => by rw [List.getElem?_replicate] at hi; split at hi <;> simp at hi⟩
        clear Hown4 Hout4 Hbut Hb4 Hs4
        obtain ⟨k, a, c, hk, rfl, rfl, hq, hout, hfr⟩ := hrel
        have hsz := hfr.out.2.2
        by_cases hlt : k < locs.length
        · go_wp2_with (at_builtin; refine wpList_append_Own (o := ⟨some 56, _, _, _, _, _⟩) rfl _ _ 28 rfl B2 3 _ 1 8 Try.underlying28 Try.infoInt rfl (by decide) a k c _ rfl (by exact hq.out.alloc _) _ 1 1 [.int .i64 k] rfl (Row.new1 (by simp) rfl rfl) (by simp [Value.oneCell']) (by unfold maxLen; omega) (by omega) (by simp; omega) ?_; intro a5 c5 w5 hown5 hg5 hbk5)
          have hrb := hq.out.rowBase (Nat.le_refl B2)
          have hk5 := (hout.out.alloc (.cells #[.int .i64 k] 3)).keptRow (fun he => by have := hrb g he; omega) hg5
          have hb5 := (hfr.out.2.1.alloc (by omega) (.cells #[.int .i64 k] 3)).grown hg5 (by simp; omega) (fun y hy => by have := hrb y hy; omega)
          have hu5 : But B2 g Wt w5 := (hfr.out.1.trans (But.of (((Below.refl B2 wr).alloc hsz (.cells #[.int .i64 k] 3))))).trans (But.grown hg5 (by simp; omega) hrb)
          go_roundw
          case rel =>
            refine ⟨k + 1, a5, c5, by omega, by go_num, rfl, ?_, hk5, ⟨hu5, hb5, by have := hg5.size; simp at this; omega⟩⟩
            rw [upto_succ, List.map_append]; exact hown5
          case measure => simp [intOf]; omega
        · obtain rfl : k = locs.length := by omega
          have g0z := but_cell hfr.out.1 g0r (Nat.le_of_eq HB2.out) (by show gx ≠ g; omega)
          have hW0 : Hid (EscWork locs.length C (lpOf locs) (List.replicate locs.length false) (upto locs.length) 0 locs.length) := EscWork.start (fun x hx => by have := mem_upto.1 hx; omega) (fun s hs => mem_upto.2 (by omega)) 0
          have hnf0 := nf_le (List.replicate locs.length false)
          rw [List.length_replicate] at hnf0
          go_wp2_with fail
          go_loopg [6] (2 * nf (List.replicate locs.length false) + locs.length) (fun m todo wz => ∃ (cur : List Bool) (q : List Int) (a : Option Addr) (c : Nat), todo = .slice a q.length c ∧ Hid (m = 2 * nf cur + q.length ∧ m ≤ 1048576) ∧ Hid (EscSt locs.length C (lpOf locs) cur ∧ EscWork locs.length C (lpOf locs) cur q 0 locs.length) ∧
            Hid (Own wz B2 3 1 a q.length c (q.map (Value.int .i64))) ∧ Hid (Own wz g 4 1 (some ⟨g, 0, none⟩) locs.length locs.length (cur.map Value.bool)) ∧ Hid (But B2 g Wt wz ∧ Below g w wz ∧ B2 ≤ wz.heap.size))
          case atStart => exact ⟨_, upto locs.length, a, c, by rw [upto_len], ⟨by rw [upto_len], by omega⟩, ⟨Hs0.out, hW0.out⟩, by rw [upto_len]; exact hq.out, hout.out, hfr.out⟩
          case round =>
            clear hq hout hfr hsz g0z hW0 Hs0 hnf0
            obtain ⟨cur, q, a, c, rfl, hm, hst, hq, hout, hfr⟩ := hrel
            have hsz := hfr.out.2.2
            cases q with
            | nil =>
              go_wp2
              go_ret
              have hl := hst.out.1.len
              have hbl : Below w.heap.size w wr := by rw [Hgg.out]; exact hfr.out.2.1
              exact ⟨.slice (some ⟨g, 0, none⟩) locs.length locs.length, rfl, hbl, cur, g, locs.length, by rw [hl], by rw [hl]; exact hout.out, hl, hst.out.1.done hst.out.2.told⟩
            | cons x q =>
              obtain ⟨hx0, hx1⟩ := hst.out.2.1 x (by simp)
              obtain ⟨r, rfl⟩ := Int.eq_ofNat_of_zero_le hx0
              have hrn : r < locs.length := by omega
              have hc1 : q.length + 1 ≤ c := by have := hq.out.le; simp at this; exact this
              obtain ⟨tg, tof, rfl⟩ := hq.out.addr (by omega)
              obtain ⟨_, _, e9, q0⟩ := hq.out.row.elem1 (l := (r : Int) :: q) (i := 0) (x := (r : Int)) rfl
              cases e9
              rw [Nat.add_zero] at q0
              have hpop := hst.out.2.pop
              have Hpop := Lib.hid hpop
              clear hpop
              go_wp2_with ((with_reducible show wpList _ _ _ _ _ _); refine wpList_slice_from (o := ⟨some 65, _, _, _, _, _⟩) rfl _ _ _ rfl 3 1 Try.underlying28 Try.sizeInt _ _ _ rfl _ 1 rfl (by omega) (by simp; omega) ?_; intro a' ha'; simp only [List.length_cons, Int.toNat_one, Nat.add_sub_cancel])
              have hqd := hq.out.cut (l := 1) (by simp) ha'.out
              simp only [Nat.one_mul, List.map_cons, List.drop_succ_cons, List.drop_zero, List.length_cons, Nat.add_sub_cancel] at hqd
              have Hqd := Lib.hid hqd
              clear hqd hq ha' q0
              go_loopw [6, 9] (fun todo i wz => ∃ (cur2 : List Bool) (q2 : List Int) (a2 : Option Addr) (c2 l : Nat), todo = .slice a2 q2.length c2 ∧ i = .int .i64 l ∧ 2 ≤ l ∧ l ≤ locs.length ∧ Hid (2 * nf cur2 + q2.length + 1 ≤ gk) ∧ Hid (EscSt locs.length C (lpOf locs) cur2 ∧ EscWork locs.length C (lpOf locs) cur2 q2 r l) ∧
                Hid (Own wz B2 3 1 a2 q2.length c2 (q2.map (Value.int .i64))) ∧ Hid (Own wz g 4 1 (some ⟨g, 0, none⟩) locs.length locs.length (cur2.map Value.bool)) ∧ Hid (But B2 g Wt wz ∧ Below g w wz ∧ B2 ≤ wz.heap.size)) (fun _ i _ => locs.length - (intOf i).toNat)
              case atStart => exact ⟨cur, q, a', c - 1, 2, rfl, rfl, by omega, by omega, by have := hm.out.1; simp at this; show _ ≤ _; omega, ⟨hst.out.1, Hpop.out⟩, Hqd, hout, hfr⟩
              case round =>
                have Hm := hm
                clear hm hst hout Hqd Hpop hfr hsz
                obtain ⟨cur2, q2, a2, c2, l, rfl, rfl, hl2, hln, hpot, hst, hq, hout, hfr⟩ := hrel
                have hsz := hfr.out.2.2
                have g0z := but_cell hfr.out.1 g0r (Nat.le_of_eq HB2.out) (by show gx ≠ g; omega)
                have hgxz := cell_lt g0z
                by_cases hlt2 : l < locs.length
                · obtain ⟨y, hy⟩ := get_some (l := locs) (i := l) hlt2
                  obtain ⟨z, hz⟩ := get_some (l := locs) (i := r) hrn
                  have hLz := HLr.out.but hfr.out.1 (Nat.le_of_eq HB2.out) HaL.out
                  obtain ⟨bL, oL, rfl, -, -, -, -, y4, hbL⟩ := loc_at hLz hy
                  obtain ⟨bL', oL', hbb, -, -, -, -, z4, -⟩ := loc_at hLz hz
                  cases hbb
                  obtain ⟨ol, hol⟩ := get_some (l := cur2) (i := l) (by rw [hst.out.1.len]; exact hlt2)
                  obtain ⟨orr, hor⟩ := get_some (l := cur2) (i := r) (by rw [hst.out.1.len]; exact hrn)
                  obtain ⟨m1, m2, m3, m4⟩ := hout.out.at0 (j := l) hlt2
                  obtain ⟨n1, n2, -, -⟩ := hout.out.at0 (j := r) hrn
                  rw [List.getElem?_map, hol] at m2
                  rw [List.getElem?_map, hor] at n2
                  simp only [Option.map_some] at m2 n2
                  obtain ⟨t1, t2, t3⟩ := Htab.out.row r hrn
                  have ht1 := t1.but hfr.out.1 (Nat.le_of_eq HB2.out) t2
                  have hCl : (C r).length = locs.length := (HC.out r hrn).len
                  obtain ⟨v, hv⟩ := get_some (l := C r) (i := l) (by omega)
                  rw [← hCl] at ht1
                  obtain ⟨ab, ao, hab, v1⟩ := ht1.elem1 hv
                  rw [hCl] at ht1
                  have hgcell : Wt.cell? ⟨gc, r, none⟩ = some (.slice (tb r).1 locs.length (tb r).2) := by
                    have := (Htab.out.own.at0 (j := r) hrn).2.1; rw [this]; exact Htab.out.cell r hrn
                  have hgc := but_cell hfr.out.1 hgcell (Nat.le_of_eq HB2.out) (by show gc ≠ g; omega)
                  rw [hab] at hgc
                  have hOut : OutL (lpOf locs) cur2 r l ↔ (r < 2 ∨ orr = true ∨ z.loop < y.loop) := by
                    unfold OutL; rw [hor, lpOf_some hz, lpOf_some hy]; simp
                  have HOut := Lib.hid hOut
                  have Hol := Lib.hid hol
                  have Hv := Lib.hid hv
                  clear hOut hol hor hv hy hz t1 ht1 hCl hab hgcell hLz t2 t3
                  go_wp2_with fail
                  go_cut [10] (fun v10 wx => ∃ (b10 : Bool) (nq : Nat), v10 = .bool b10 ∧ Hid (b10 = true ↔ OutL (lpOf locs) cur2 r l) ∧ wx = wr.drewN nq)
                  case first =>
                    by_cases h2 : r < 2
                    · have f1 : decide ((r : Int) < 2) = true := by simp; omega
                      go_quiet (fail)
                      go_wp2_with fail
                      go_meet
                      exact ⟨true, _, rfl, by show _ ↔ _; rw [HOut.out]; simp [h2], rfl⟩
                    · have f1 : decide ((r : Int) < 2) = false := by simp; omega
                      cases orr
                      · by_cases h3 : z.loop < y.loop
                        · go_quiet (fail)
                          go_wp2_with fail
                          go_meet
                          exact ⟨true, _, rfl, by show _ ↔ _; rw [HOut.out]; simp [h3], rfl⟩
                        · go_quiet (fail)
                          go_wp2_with fail
                          go_meet
                          exact ⟨false, _, rfl, by show _ ↔ _; rw [HOut.out]; simp [h2] <;> omega, rfl⟩
                      · go_quiet (fail)
                        go_wp2_with fail
                        go_meet
                        exact ⟨true, _, rfl, by show _ ↔ _; rw [HOut.out]; simp, rfl⟩
                  case rest =>
                    obtain ⟨b10, nq, rfl, hb10, rfl⟩ := hcut
                    have skip : (v = -1 → OutL (lpOf locs) cur2 r l → cur2[l]? = some true) → Hid (EscSt locs.length C (lpOf locs) cur2 ∧ EscWork locs.length C (lpOf locs) cur2 q2 r (l + 1)) := fun hno =>
                      ⟨hst.out.1, hst.out.2.skip (fun hc ho => hno (by rw [Hv.out] at hc; simpa using hc) ho)⟩
                    have Skip := Lib.hid skip
                    clear skip n1 n2 y4 z4
                    have hql : q2.length + 1 ≤ 1048576 := by have := hpot.out; have := Hm.out.1; have := Hm.out.2; omega
                    by_cases hv1 : v = -1
                    · have fv : (v == -1) = true := by simpa using hv1
                      have Hv1 := Lib.hid hv1
                      clear hv1
                      cases ol
                      · cases b10
                        · go_wp2
                          go_roundw
                          case rel => exact ⟨cur2, q2, a2, c2, l + 1, rfl, by go_num, by omega, by omega, hpot, Skip.out (fun _ ho => by have := hb10.out.2 ho; simp at this), hq.out.drewN _, hout.out.drewN _, ⟨hfr.out.1, below_drewN hfr.out.2.1 _, hfr.out.2.2⟩⟩
                          case measure => simp [intOf]; omega
                        · have hOut : OutL (lpOf locs) cur2 r l := by have := hb10.out; simpa using this
                          have hput := hst.out.1.put hl2 hlt2 hrn (by rw [Hv.out, Hv1.out]) hOut
                          have hpush := hst.out.2.push hlt2 hst.out.1.len
                          have hnf := nf_set Hol.out
                          have hrb := hq.out.rowBase (Nat.le_refl B2)
                          have hset : Own ((wr.drewN nq).setCell ⟨g, l, none⟩ (.bool true)) g 4 1 (some ⟨g, 0, none⟩) locs.length locs.length ((cur2.set l true).map Value.bool) := by
                            rw [List.map_set]; exact (hout.out.drewN nq).set0 hlt2 _
                          have hqs : ∀ o, Own (((wr.drewN nq).setCell ⟨g, l, none⟩ (.bool true)).alloc o) B2 3 1 a2 q2.length c2 (q2.map (Value.int .i64)) := fun o => ((hq.out.drewN nq).setCell_row (fun he => by have := hrb g he; omega) _).alloc o
                          have hus : But B2 g Wt ((wr.drewN nq).setCell ⟨g, l, none⟩ (.bool true)) := hfr.out.1.trans ((But.of (below_drewN (Below.refl B2 wr) nq)).trans (But.set l _))
                          have hbs : Below g w ((wr.drewN nq).setCell ⟨g, l, none⟩ (.bool true)) := (below_drewN hfr.out.2.1 nq).setCell m3 _
                          have Hput := Lib.hid hput
                          have Hpush := Lib.hid hpush
                          have Hnf := Lib.hid hnf
                          have Hset := Lib.hid hset
                          have Hqs := Lib.hid hqs
                          have Hus := Lib.hid hus
                          have Hbs := Lib.hid hbs
                          have Hrb := Lib.hid hrb
                          clear hOut hput hpush hnf hset hqs hus hbs hrb
                          go_wp2_with (at_builtin; refine wpList_append_Own (o := ⟨some 129, _, _, _, _, _⟩) rfl _ _ 28 rfl B2 3 _ 1 8 Try.underlying28 Try.infoInt rfl (by decide) a2 q2.length c2 _ rfl (by exact Hqs.out _) _ 1 1 [.int .i64 l] rfl (Row.new1 (by simp) rfl rfl) (by simp [Value.oneCell']) (by unfold maxLen; omega) (by omega) (by simp; omega) ?_; intro a5 c5 w5 hown5 hg5 hbk5)
                          have hk5 := (Hset.out.alloc (.cells #[.int .i64 l] 3)).keptRow (fun he => by have := Hrb.out g he; omega) hg5
                          have hb5 := (Hbs.out.alloc (by simp; omega) (.cells #[.int .i64 l] 3)).grown hg5 (by simp; omega) (fun y hy => by have := Hrb.out y hy; omega)
                          have hu5 : But B2 g Wt w5 := (Hus.out.trans (But.of ((Below.refl B2 _).alloc (by simp; omega) (.cells #[.int .i64 l] 3)))).trans (But.grown hg5 (by simp; omega) Hrb.out)
                          go_roundw
                          case rel =>
                            refine ⟨cur2.set l true, q2 ++ [(l : Int)], a5, c5, l + 1, by simp, by go_num, by omega, by omega, ?_, ⟨Hput.out, Hpush.out⟩, ?_, hk5, ⟨hu5, hb5, by have := hg5.size; simp at this; omega⟩⟩
                            · have := hpot.out; have := Hnf.out; show _ ≤ _; simp; omega
                            · show Own _ _ _ _ _ _ _ _; simpa using hown5
                          case measure => simp [intOf]; omega
                      · go_wp2
                        go_roundw
                        case rel => exact ⟨cur2, q2, a2, c2, l + 1, rfl, by go_num, by omega, by omega, hpot, Skip.out (fun _ _ => Hol.out), hq.out.drewN _, hout.out.drewN _, ⟨hfr.out.1, below_drewN hfr.out.2.1 _, hfr.out.2.2⟩⟩
                        case measure => simp [intOf]; omega
                    · have fv : (v == -1) = false := by simpa using hv1
                      have Hv1 := Lib.hid hv1
                      clear hv1
                      go_wp2
                      go_roundw
                      case rel => exact ⟨cur2, q2, a2, c2, l + 1, rfl, by go_num, by omega, by omega, hpot, Skip.out (fun h => absurd h Hv1.out), hq.out.drewN _, hout.out.drewN _, ⟨hfr.out.1, below_drewN hfr.out.2.1 _, hfr.out.2.2⟩⟩
                      case measure => simp [intOf]; omega
                · obtain rfl : l = locs.length := by omega
                  go_wp2
                  have hm2 := Hm.out.2
                  have hpt := hpot.out
                  go_roundg (2 * nf cur2 + q2.length)
                  case measure => omega
                  case rel => exact ⟨cur2, q2, a2, c2, rfl, ⟨rfl, by omega⟩, ⟨hst.out.1, hst.out.2.anyr 0⟩, hq, hout, hfr⟩

end Go.Proofs.Ytadekfjgdbngdaa
