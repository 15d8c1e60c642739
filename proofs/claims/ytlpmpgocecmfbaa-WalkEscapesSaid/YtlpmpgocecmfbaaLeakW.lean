/- Leaks, the program's, walked. -/
import Derived.Test.YtlpmpgocecmfbaaTake
namespace Go.Proofs.Ytlpmpgocecmfbaa
open Go Go.RowKit

theorem heapsOf_get (C : Nat → List Int) (bs : List Bool) (n p i : Nat) (hi : i < p) : (heapsOf C bs n p)[i]? = some (leastTo C bs (i + 2) n) := by
  induction p with
  | zero => omega
  | succ p ih =>
    simp only [heapsOf]
    by_cases h : i < p
    · rw [List.getElem?_append_left (by rw [heapsOf_len]; exact h), ih h]
    · obtain rfl : i = p := by omega
      rw [List.getElem?_append_right (by rw [heapsOf_len]; exact Nat.le_refl _), heapsOf_len]; simp
theorem leastTo_ge (C : Nat → List Int) (bs : List Bool) (i n : Nat) : -1 ≤ leastTo C bs i n := by
  induction n with
  | zero => simp [leastTo]
  | succ n ih =>
    simp only [leastTo]
    split
    · exact upd_ge _ _ ih
    · exact ih
theorem heapsOf_ge (C : Nat → List Int) (bs : List Bool) (n p : Nat) : ∀ x ∈ heapsOf C bs n p, -1 ≤ x := by
  intro x hx
  obtain ⟨i, hi⟩ := List.mem_iff_getElem?.1 hx
  have hl := get_lt hi
  rw [heapsOf_len] at hl
  rw [heapsOf_get _ _ _ _ _ hl] at hi
  simp at hi
  rw [← hi]; exact leastTo_ge _ _ _ _
theorem heapsOf_zero (C : Nat → List Int) (bs : List Bool) (p : Nat) : heapsOf C bs 0 p = List.replicate p (-1) := by
  induction p with
  | zero => rfl
  | succ p ih => rw [List.replicate_succ', ← ih]; rfl
theorem heapsOf_take (C : Nat → List Int) (bs : List Bool) (k p : Nat) (h : k = 0 ∨ bs[k]? = some true) : takeK (heapsOf C bs k p) (C k) p = heapsOf C bs (k + 1) p := by
  apply List.ext_getElem?
  intro i
  rcases Nat.lt_or_ge i p with hi | hi
  · rw [takeK_get _ _ _ _ (by rw [heapsOf_len]; exact hi), if_pos hi, heapsOf_get _ _ _ _ _ hi, heapsOf_get _ _ _ _ _ hi]
    simp only [leastTo, Option.getD_some]
    rw [if_pos h]
  · rw [List.getElem?_eq_none (by rw [takeK_len, heapsOf_len]; exact hi), List.getElem?_eq_none (by rw [heapsOf_len]; exact hi)]
theorem heapsOf_skip (C : Nat → List Int) (bs : List Bool) (k p : Nat) (h : ¬ (k = 0 ∨ bs[k]? = some true)) : heapsOf C bs (k + 1) p = heapsOf C bs k p := by
  apply List.ext_getElem?
  intro i
  rcases Nat.lt_or_ge i p with hi | hi
  · rw [heapsOf_get _ _ _ _ _ hi, heapsOf_get _ _ _ _ _ hi]
    simp only [leastTo]
    rw [if_neg h]
  · rw [List.getElem?_eq_none (by rw [heapsOf_len]; exact hi), List.getElem?_eq_none (by rw [heapsOf_len]; exact hi)]

theorem Esc.two {n : Nat} {C : Nat → List Int} {lp : Nat → Int} {l : Nat} (h : Esc n C lp l) : 2 ≤ l := by cases h <;> assumption

theorem Own.butRow {w w' : World} {base : Nat} {e : TypeId} {sz : Nat} {a : Option Addr} {n cap B g : Nat} {xs : List Value} (h : Own w base e sz a n cap xs) (hb : But B g w w') (hB : w.heap.size ≤ B) (hr : rowOf a cap ≠ some g) : Own w' base e sz a n cap xs := by
  by_cases hc : cap = 0
  · have := h.le; exact ⟨h.1, .inl ⟨by omega, hc, fun _ hj => h.base hj⟩⟩
  · exact h.congr fun j hj hlt => hb j (by omega) (fun he => hr (by rw [rowOf, if_neg hc, hj, he]))

/-- what the program's Leaks keeps -/
structure PInv (w2 wq : World) (a : Option Addr) (cp P t : Nat) (l : List Int) : Prop where
  below : Below w2.heap.size w2 wq
  cell : Blk wq t #[.slice a P cp] 28
  own : Own wq w2.heap.size 3 1 a P cp (l.map (Value.int .i64))
theorem PInv.ext {w2 wq w' : World} {a : Option Addr} {cp P t : Nat} {l : List Int} (h : PInv w2 wq a cp P t l) (hb : Below wq.heap.size wq w') : PInv w2 w' a cp P t l :=
  ⟨h.below.trans (hb.mono h.below.size), h.cell.ext hb, h.own.ext hb⟩
theorem PInv.take {w2 wq w' : World} {a : Option Addr} {cp P t : Nat} {l l' : List Int} (h : PInv w2 wq a cp P t l) (hr : ∀ j, rowOf a cp = some j → w2.heap.size ≤ j ∧ j < t) (hk : Keep wq.heap.size (rowOf a cp) wq w')
    (ho : Own w' w2.heap.size 3 1 a P cp (l'.map (Value.int .i64))) : PInv w2 w' a cp P t l' :=
  ⟨h.below.trans ⟨hk.1.os, hk.1.tape, hk.1.output, hk.1.size, fun k hlt => hk.2 k (by have := h.below.size; omega) (fun he => by have := (hr k he).1; omega)⟩,
   (hk.2 t h.cell.lt (fun he => by have := (hr t he).2; omega)).trans h.cell, ho⟩

set_option maxRecDepth 100000 in
set_option maxHeartbeats 1000000 in
theorem walkLeaks_any (aL aE : Option Addr) (cL cE : Nat) (p : Int) (locs : List LocD) (edges : List EdgeD) (D : Nat) (C : Nat → List Int) (w : World) (hL : Row w 5 aL locs.length (locs.flatMap LocD.cells)) (hE : Row w 3 aE edges.length (edges.flatMap EdgeD.cells))
    (hf : Fit locs edges D) (hC : RightG locs edges p → ComeAll edges locs.length C) :
    Calls Try.prog 16 #[.agg #[.slice aL locs.length cL, .slice aE edges.length cE, .int .i64 p]] w (Ret w (LeakR w.heap.size locs edges p C)) := by
  have HC := Lib.hid hC
  have HF := Lib.hid hf
  have hl := hf.l
  go_enter Try.func16, Try.ntmps16
  go_wp2_with fail
  refine (made_any aL aE cL cE p locs edges _ ((hL.ext (below_a1 _ _)).ext (below_a1 _ _)) ((hE.ext (below_a1 _ _)).ext (below_a1 _ _)) hf.l hf.e).mono ?_
  rintro e w1 ⟨v, rfl, hb1, hr⟩
  have k0 : Blk w1 w.heap.size #[.slice aL locs.length cL, .slice aE edges.length cE, .int .i64 p] 35 := ((Blk.new rfl).alloc _).ext hb1
  have k1 : Blk w1 (w.heap.size + 1) #[.string { data := #[] }, .slice none 0 0, .slice none 0 0] 43 := (Blk.new (by simp)).ext hb1
  have Hb1 := Lib.hid (((below_a1 _ _).trans ((below_a1 _ _).mono (by simp))).trans (hb1.mono (by simp; omega)))
  have hs1 : w.heap.size + 1 < w1.heap.size := k1.lt
  have d0 := k1.cell 0
  have d1 := k1.cell 1
  have d2 := k1.cell 2
  have f0 := k1.free 0
  have f1 := k1.free 1
  have f2 := k1.free 2
  simp only [List.getElem?_toArray, List.getElem?_cons_zero, List.getElem?_cons_succ] at d0 d1 d2
  have K0 := Lib.hid k0
  have K1 := Lib.hid k1
  clear hb1 k0 k1 hL hE hf hC
  rcases hr with ⟨hnr, rfl⟩ | ⟨hR, gx, rfl, hG⟩
  · have Hnr := Lib.hid hnr
    clear hnr
    go_wp2
    refine bodyPost_ret (v := .tuple #[.agg #[.string { data := #[] }, .slice none 0 0, .slice none 0 0], .int .i64 161]) ?_ rfl ?_
    · have k1 := K1.out.set3 (.string { data := #[] }) (.slice none 0 0) (.slice none 0 0)
      have e0 := k1.cell 0
      have e1 := k1.cell 1
      have e2 := k1.cell 2
      simp only [List.getElem?_toArray, List.getElem?_cons_zero, List.getElem?_cons_succ] at e0 e1 e2
      simp [results, Try.results16, go_sem, e0, e1, e2]
    · exact ⟨_, rfl, Below.set3 Hb1.out (by omega) _ _ _ _ _ _, .inl ⟨Hnr.out, rfl⟩⟩
  · have HR := Lib.hid hR
    have HG := Lib.hid hG
    clear hR hG
    have hp0 := HR.out.p0
    have hpn := HR.out.pn
    have hmost := HR.out.most
    have htwo := HR.out.two
    go_wp2_with fail
    refine (escapes_any gx D p locs edges C _ HG.out HR.out HF.out (HC.out HR.out)).mono ?_
    rintro e w2 ⟨v, rfl, hb2, bs, g, cap, rfl, hown, hbl, hbs⟩
    have Hb2 := Lib.hid (Hb1.out.trans (hb2.mono Hb1.out.size))
    have Hb21 := Lib.hid hb2
    have K02 := Lib.hid (K0.out.ext hb2)
    have K12 := Lib.hid (K1.out.ext hb2)
    have Hrow := Lib.hid hown
    have HIs : Hid (IsEsc locs C bs) := ⟨hbl, hbs⟩
    have hs2 : w1.heap.size ≤ w2.heap.size := hb2.size
    have c2 := K02.out.cell 2
    simp only [List.getElem?_toArray, List.getElem?_cons_zero, List.getElem?_cons_succ] at c2
    have hs3 : w.heap.size < w2.heap.size := by omega
    clear hb2 hown hbs d0 d1 d2 f0 f1 f2
    obtain ⟨P, rfl⟩ := Int.eq_ofNat_of_zero_le hp0
    go_wp2_with fail
    refine (repeat_any (some ⟨w2.heap.size, 0, none⟩) 1 (-1) P _ (Row.new1 rfl rfl rfl) (by omega)).mono ?_
    rintro e w3 ⟨v, rfl, hb3, a, cp, rfl, hown3, ha⟩
    have hsz3 := hb3.size
    simp at hsz3
    have hrow : ∀ j, rowOf a cp = some j → w2.heap.size ≤ j ∧ j < w3.heap.size := fun j hj => by have := row_lt hown3 hj; simp at this; omega
    have hinv : PInv w2 (w3.alloc (.cells #[.slice a P cp] 28)) a cp P w3.heap.size (heapsOf C bs 0 P) :=
      ⟨((((Below.refl _ _).alloc (Nat.le_refl _) _).trans (hb3.mono (by simp))).alloc (by omega) _), Blk.new rfl, by rw [heapsOf_zero]; have := (hown3.alloc (.cells #[.slice a P cp] 28)).mono (base' := w2.heap.size) (by simp); simpa using this⟩
    have Hrw := Lib.hid hrow
    have Hinv := Lib.hid hinv
    have Ha : Hid (0 < P → ∃ g, a = some ⟨g, 0, none⟩) := by show 0 < P → _; simpa using ha
    have Hst : Hid (w2.heap.size < w3.heap.size) := hsz3
    clear hb3 hown3 ha hsz3 hrow hinv c2
    simp only [List.length_replicate]
    have hGA : ∀ W, Below w2.heap.size w2 W → MadeG W gx locs edges P := fun W hW => HG.out.ext (Hb21.out.trans (hW.mono hs2))
    have HGA := Lib.hid hGA
    clear hGA
    go_wp2_with fail
    generalize w3.heap.size = t at *
    refine (come_any gx 0 D P locs edges _ (HGA.out _ Hinv.out.below) HR.out (by omega) HF.out.deref HF.out.m HF.out.d HF.out.e).mono ?_
    rintro e w4 ⟨v, rfl, hb4, x, hx, a4, cap4, rfl, hown4, -⟩
    obtain rfl := hx.unique (HC.out HR.out 0 (by omega))
    have hxl := hx.len
    have hinv4 := Hinv.out.ext hb4
    have hac4 : ∀ j, blockOf a4 = some j → rowOf a cp ≠ some j := fun j hj he => by have := hown4.base hj; have := (row_lt Hinv.out.own he).2; omega
    have ht4 := hinv4.cell.cell 0
    simp only [List.getElem?_toArray, List.getElem?_cons_zero] at ht4
    have hln : (heapsOf C bs 0 P).length = P := heapsOf_len _ _ _ _
    have htk := take_any a4 a cap4 cp t w2.heap.size (C 0) (heapsOf C bs 0 P) w4 hown4.row (by rw [hln]; exact hinv4.own) (by rw [hln]; exact Ha.out) hac4 (by rw [hln]; exact ht4) (fun he => by have := (Hrw.out t he).2; omega) (by rw [hln, hxl]; omega) (by omega) (heapsOf_ge _ _ _ _)
    rw [hln, heapsOf_take _ _ _ _ (.inl rfl), hxl] at htk
    have Hinv4 := Lib.hid hinv4
    have Htk := Lib.hid htk
    clear hx hb4 hown4 hinv4 hac4 hln htk ht4 Hinv
    go_wp2_with fail
    refine Htk.out.mono ?_
    rintro e w5 ⟨v, rfl, hk5, ho5⟩
    have Hinv5 := Lib.hid (Hinv4.out.take Hrw.out hk5 ho5)
    clear hk5 ho5 Htk Hinv4 hxl
    go_wp2_with fail
    go_loopw [36] (fun i wq => ∃ (k : Nat), k ≤ locs.length ∧ i = .int .i64 k ∧ Hid (PInv w2 wq a cp P t (heapsOf C bs (max k 1) P))) (fun i _ => locs.length - (intOf i).toNat)
    case atStart => exact ⟨0, Nat.zero_le _, rfl, Hinv5⟩
    case round =>
      clear Hinv5
      obtain ⟨k, hk, rfl, hinv⟩ := hrel
      by_cases hlt : k < locs.length
      · obtain ⟨b, hbk⟩ := get_some (l := bs) (i := k) (by rw [HIs.out.1]; exact hlt)
        obtain ⟨m1, m2, m3, m4⟩ := (Hrow.out.ext hinv.out.below).at0 (j := k) (by rw [HIs.out.1]; exact hlt)
        rw [List.getElem?_map, hbk] at m2
        simp only [Option.map_some] at m2
        have hkb : (k : Int) < locs.length := by omega
        have Hbk := Lib.hid hbk
        clear hbk
        cases b
        · go_wp2
          go_roundw
          case rel =>
            have e : heapsOf C bs (max (k + 1) 1) P = heapsOf C bs (max k 1) P := by
              rcases Nat.eq_zero_or_pos k with h0 | h0
              · subst h0; rfl
              · rw [show max k 1 = k by omega, show max (k + 1) 1 = k + 1 by omega]
                exact heapsOf_skip C bs k P (by intro h; rcases h with h | h; omega; rw [Hbk.out] at h; simp at h)
            exact ⟨k + 1, by omega, by go_num, by rw [e]; exact hinv⟩
          case measure => simp [intOf]; omega
        · have hk2 : 2 ≤ k := ((HIs.out.2 k).1 Hbk.out).two
          go_wp2_with fail
          refine (come_any gx k D P locs edges _ (HGA.out _ hinv.out.below) HR.out hlt HF.out.deref HF.out.m HF.out.d HF.out.e).mono ?_
          rintro e w6 ⟨v, rfl, hb6, x, hx, a6, cap6, rfl, hown6, -⟩
          obtain rfl := hx.unique (HC.out HR.out k hlt)
          have hxl := hx.len
          have hinv6 := hinv.out.ext hb6
          rw [show max k 1 = k by omega] at hinv6
          have hac6 : ∀ j, blockOf a6 = some j → rowOf a cp ≠ some j := fun j hj he => by have := hown6.base hj; have := (row_lt hinv.out.own he).2; omega
          have ht6 := hinv6.cell.cell 0
          simp only [List.getElem?_toArray, List.getElem?_cons_zero] at ht6
          have hln : (heapsOf C bs k P).length = P := heapsOf_len _ _ _ _
          have htk := take_any a6 a cap6 cp t w2.heap.size (C k) (heapsOf C bs k P) w6 hown6.row (by rw [hln]; exact hinv6.own) (by rw [hln]; exact Ha.out) hac6 (by rw [hln]; exact ht6) (fun he => by have := (Hrw.out t he).2; omega) (by rw [hln, hxl]; omega) (by omega) (heapsOf_ge _ _ _ _)
          rw [hln, heapsOf_take _ _ _ _ (.inr Hbk.out), hxl] at htk
          have Hinv6 := Lib.hid hinv6
          have Htk := Lib.hid htk
          clear hx hb6 hown6 hinv6 hac6 hln htk ht6 hinv
          go_wp2_with fail
          refine Htk.out.mono ?_
          rintro e w7 ⟨v, rfl, hk7, ho7⟩
          have Hinv7 := Lib.hid (Hinv6.out.take Hrw.out hk7 ho7)
          clear hk7 ho7 Htk Hinv6 hxl
          go_wp2
          go_roundw
          case rel => exact ⟨k + 1, by omega, by go_num, by rw [show max (k + 1) 1 = k + 1 by omega]; exact Hinv7⟩
          case measure => simp [intOf]; omega
      · obtain rfl : k = locs.length := by omega
        have ht := hinv.out.cell.cell 0
        simp only [List.getElem?_toArray, List.getElem?_cons_zero] at ht
        have hts := hinv.out.cell.lt
        have hbA := hinv.out.below.alloc hinv.out.below.size (.cells #[.string { data := #[] }, .slice a P cp, .slice none 0 0] 43)
        have kS : Blk (wr.alloc (.cells #[.string { data := #[] }, .slice a P cp, .slice none 0 0] 43)) wr.heap.size #[.string { data := #[] }, .slice a P cp, .slice none 0 0] 43 := Blk.new rfl
        have Hgx := Lib.hid (HGA.out _ hbA.drew)
        have c2 : (wr.alloc (.cells #[.string { data := #[] }, .slice a P cp, .slice none 0 0] 43)).drew.cell? ⟨w.heap.size, 2, none⟩ = some (.int .i64 P) := (K02.out.ext hbA).cell 2
        have HbA := Lib.hid hbA
        have HkS := Lib.hid kS
        have hwS : w2.heap.size ≤ wr.heap.size := hinv.out.below.size
        have hPn : 2 + (P : Int) ≤ locs.length := by omega
        have hwP : IntKind.i64.wrap (2 + (P : Int)) = 2 + (P : Int) := IntWalk.i64_in _ (by omega)
        clear hbA kS
        go_wp2_with fail
        go_region_held3 (fun w' => w'.cell? ⟨w.heap.size, 2, none⟩ = some (.int .i64 P)) (go_keep) (first | (go_at_call 19; refine (come_any gx 1 D P locs edges _ Hgx.out HR.out (by omega) HF.out.deref HF.out.m HF.out.d HF.out.e).mono ?_; rintro e w8 ⟨v, rfl, hb8, x, hx, a8, cap8, rfl, hown8, -⟩; have hxl := hx.len; obtain rfl := hx.unique (HC.out HR.out 1 (by omega)); have h82 := below_ext hb8 c2; have hle8 := hown8.le; have hsl : ∀ w, (Instr.slice 28 (.slice a8 locs.length cap8) (some (.int .i64 2)) (some (.int .i64 (2 + (P : Int)))) none).run Try.prog w = .ok (.slice (cutAt a8 cap8 2 1) P (cap8 - 2)) w := fun w => (run_slice_sub (P := Try.prog) w 28 3 _ Try.underlying28 rfl a8 locs.length cap8 .i64 .i64 2 (2 + (P : Int)) (by omega) (by omega) (by omega)).trans (by rw [show (2 + (P : Int)).toNat - (2 : Int).toNat = P by omega]; rfl)))
        have hrow8 : Row w8 1 (cutAt a8 cap8 2 1) P ((((C 1).drop 2).take P).map (Value.int .i64)) := by
          have := hown8.row.cut hle8 (l := 2) (m := 2 + P) (by omega) (by omega) (a' := cutAt a8 cap8 2 1) rfl
          rwa [show 2 + P - 2 = P by omega, Nat.mul_one, ← List.map_drop, ← List.map_take] at this
        have hbW := HbA.out.drew.trans (hb8.mono HbA.out.drew.size)
        have hkS8 := (HkS.out.drew).ext hb8
        have hHeap8 := ((hinv.out.own.alloc (.cells #[.string { data := #[] }, .slice a P cp, .slice none 0 0] 43)).drewN 1).ext hb8
        rw [show max locs.length 1 = locs.length by omega] at hHeap8
        have hS := HkS.out.lt
        have hsz8 := hkS8.lt
        have hbase8 : ∀ j, blockOf (cutAt a8 cap8 2 1) = some j → wr.heap.size < j := fun j hj => by
          have := (hown8.cut (l := 2) (by omega) (a' := cutAt a8 cap8 2 1) rfl).base hj
          simp at this; omega
        have hheapS : rowOf a cp ≠ some wr.heap.size := fun he => by have := (row_lt hinv.out.own he).2; omega
        have Hrow8 := Lib.hid hrow8
        have HbW := Lib.hid hbW
        have HHeap8 := Lib.hid hHeap8
        have Hbase8 := Lib.hid hbase8
        have HheapS := Lib.hid hheapS
        have Hsz8 : Hid (wr.heap.size < w8.heap.size) := hsz8
        have HkS8 := Lib.hid hkS8
        have hSl : w2.heap.size ≤ wr.heap.size := hwS
        clear hrow8 hbW hkS8 hHeap8 hS hsz8 hbase8 hheapS hown8 hb8 hx hsl h82 HbA HkS hle8 ht hts hinv
        generalize wr.heap.size = S at *
        go_wp2_with fail
        go_loopw [57] (fun i wz => ∃ (k : Nat) (aR : Option Addr) (cR : Nat), k ≤ P ∧ i = .int .i64 k ∧ Hid (w8.heap.size ≤ wz.heap.size ∧ But w8.heap.size S w8 wz ∧ Below w2.heap.size w2 wz ∧ Blk wz S #[.string { data := #[] }, .slice a P cp, .slice aR k cR] 43 ∧ Own wz w8.heap.size 3 1 aR k cR ((resultsOf C k).map (Value.int .i64)))) (fun i _ => P - (intOf i).toNat)
        case atStart => exact ⟨0, none, 0, Nat.zero_le _, rfl, Nat.le_refl _, But.refl _ _ _, HbW.out, HkS8.out, Own.nil _ _ _ _⟩
        case round =>
          obtain ⟨k, aR, cR, hkP, rfl, hz⟩ := hrel
          obtain ⟨hwz, hbut, hbz, hkz, hrz⟩ := hz.out
          have s1 := hkz.cell 2
          have s2 := hkz.cell 1
          have s0 := hkz.cell 0
          have g2 := hkz.free 2
          simp only [List.getElem?_toArray, List.getElem?_cons_zero, List.getElem?_cons_succ] at s0 s1 s2
          by_cases hkl : k < P
          · obtain ⟨d, hd⟩ := get_some (l := C 1) (i := k + 2) (by omega)
            have hrowz : Row wr 1 (cutAt a8 cap8 2 1) P ((((C 1).drop 2).take P).map (Value.int .i64)) := Hrow8.out.but hbut (Nat.le_refl _) (fun he => by have := Hbase8.out _ he; simp at this)
            have hl2 : (((C 1).drop 2).take P).length = P := by simp; omega
            have hd2 : (((C 1).drop 2).take P)[k]? = some d := by rw [List.getElem?_take, if_pos hkl, List.getElem?_drop, Nat.add_comm]; exact hd
            have hrowl : Row wr 1 (cutAt a8 cap8 2 1) (((C 1).drop 2).take P).length ((((C 1).drop 2).take P).map (Value.int .i64)) := by rw [hl2]; exact hrowz
            obtain ⟨ab, ao, hab, v1⟩ := hrowl.elem1 hd2
            have hkP2 : (k : Int) < P := by omega
            have hw28 : w2.heap.size ≤ w8.heap.size := by have := Hsz8.out; omega
            have hmx : max d (-1) = if d < -1 then -1 else d := by split <;> omega
            rw [hab] at *
            have Hrz := Lib.hid hrz
            have Hkz := Lib.hid hkz
            have Hbz := Lib.hid hbz
            have Hbut := Lib.hid hbut
            have Hd := Lib.hid hd
            clear hrz hbz hbut hab hd2 hrowz hrowl hl2 hz hd hkz
            go_wp2_with (at_builtin; refine wpList_append_Own (o := ⟨some 66, _, _, _, _, _⟩) rfl _ _ 28 rfl w8.heap.size 3 _ 1 8 Try.underlying28 Try.infoInt rfl (by decide) aR k cR _ rfl (by exact (by simpa [resultsOf_len] using Hrz.out.alloc _)) _ 1 1 [.int .i64 (max d (-1))] rfl (Row.new1 (by simp) rfl (by simp [hmx])) (by simp [Value.oneCell']) (by unfold maxLen; omega) (by omega) (by simp; omega) ?_; intro a5 c5 w5 hown5 hg5 hbk5; generalize (if d < -1 then -1 else d) = m at *; have kz5 := (Hkz.out.alloc _).grown hg5 (Hrz.out.apart Hsz8.out); have g5 := kz5.free 2; have q5 := kz5.cell 2; simp only [List.getElem?_toArray, List.getElem?_cons_zero, List.getElem?_cons_succ] at q5; have Hg5 := Lib.hid hg5; have Hkz5 := Lib.hid kz5; have Hown5 := Lib.hid hown5; have hs5 := hg5.size; clear hg5 kz5 hown5 hbk5)
            subst hmx
            have hb5 := (Hbz.out.alloc Hbz.out.size (.cells #[.int .i64 (max d (-1))] 3)).grown Hg5.out (by have := Hbz.out.size; simp; omega) (fun y hy => Hrz.out.rowBase hw28 y hy)
            have hbut5 := (Hbut.out.trans (But.of ((Below.refl _ wr).alloc hwz (.cells #[.int .i64 (max d (-1))] 3)))).trans (But.grown Hg5.out (by simp; omega) (fun y hy => Hrz.out.rowBase (Nat.le_refl _) y hy))
            go_roundw
            case rel =>
              have hres : resultsOf C (k + 1) = resultsOf C k ++ [max d (-1)] := by have := Hd.out; simp [resultsOf, this]
              refine ⟨k + 1, a5, c5, by omega, by go_num, ?_⟩
              refine ⟨by simp at hs5; simp; omega, hbut5.trans (But.set _ _), hb5.setCell (by show w2.heap.size ≤ S; omega) _, Hkz5.out.set 2 _, ?_⟩
              rw [hres]
              have h5 := Hown5.out.setCell_row (p := ⟨S, 2, none⟩) (fun he => by have := (row_lt Hown5.out he).1; have := Hsz8.out; simp at *; omega) (.slice a5 (k + 1) c5)
              simpa using h5
            case measure => simp [intOf]; omega
          · obtain rfl : k = P := by omega
            have k1 := K12.out.ext hbz
            have d0 := k1.cell 0
            have d1 := k1.cell 1
            have d2 := k1.cell 2
            have f0 := k1.free 0
            have f1 := k1.free 1
            have f2 := k1.free 2
            simp only [List.getElem?_toArray, List.getElem?_cons_zero, List.getElem?_cons_succ] at d0 d1 d2
            go_wp2
            refine bodyPost_ret (v := .tuple #[.agg #[.string { data := #[] }, .slice a k cp, .slice aR k cR], .int .i64 0]) ?_ rfl ?_
            · have k1 := k1.set3 (.string { data := #[] }) (.slice a k cp) (.slice aR k cR)
              have e0 := k1.cell 0
              have e1 := k1.cell 1
              have e2 := k1.cell 2
              simp only [List.getElem?_toArray, List.getElem?_cons_zero, List.getElem?_cons_succ] at e0 e1 e2
              simp [results, Try.results16, go_sem, e0, e1, e2]
            · have hh := HHeap8.out.butRow hbut (Nat.le_refl _) HheapS.out
              have hw28 : w2.heap.size ≤ w8.heap.size := by have := Hsz8.out; omega
              have hw3 : w.heap.size + 1 < w2.heap.size := by omega
              have nh : rowOf a cp ≠ some (w.heap.size + 1) := fun he => by have := (row_lt hh he).1; omega
              have nr : rowOf aR cR ≠ some (w.heap.size + 1) := fun he => by have := (row_lt hrz he).1; omega
              have hb : Below w.heap.size w wr := Hb2.out.trans (hbz.mono (by omega))
              refine ⟨_, rfl, Below.set3 hb (by omega) _ _ _ _ _ _, .inr ⟨HR.out, bs, _, _, HIs.out, rfl, ⟨a, cp, by rw [heapsOf_len]; simp, ?_⟩, ⟨aR, cR, by rw [resultsOf_len]; simp, ?_⟩⟩⟩
              · rw [heapsOf_len]
                exact (((hh.mono (by omega)).setCell_row nh _).setCell_row nh _).setCell_row nh _
              · rw [resultsOf_len]
                exact (((hrz.mono (by omega)).setCell_row nr _).setCell_row nr _).setCell_row nr _
end Go.Proofs.Ytlpmpgocecmfbaa
