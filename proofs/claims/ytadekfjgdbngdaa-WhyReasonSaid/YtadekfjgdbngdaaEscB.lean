/- The document's Escapes, of any size, walked. -/
import Derived.Test.YtadekfjgdbngdaaEscs
namespace Go.Proofs.Ytadekfjgdbngdaa
open Go Go.RowKit

set_option maxRecDepth 20000 in
set_option maxHeartbeats 1000000 in
theorem refEscs_big (aL aE : Option Addr) (cL cE : Nat) (p : Int) (locs : List LocD) (edges : List EdgeD) (C : Nat → List Int) (w : World) (hL : Row w 5 aL locs.length (locs.flatMap LocD.cells)) (hE : Row w 3 aE edges.length (edges.flatMap EdgeD.cells))
    (hC : RightG locs edges p → ComeAll edges locs.length C) (hl0 : locs.length ≤ maxLen) (hle : edges.length ≤ maxLen) :
    Calls Try.prog 11 #[.agg #[.slice aL locs.length cL, .slice aE edges.length cE, .int .i64 p]] w (Ret w (EscR w.heap.size locs edges p C)) := by
  have HC := Lib.hid hC
  have HL := Lib.hid hL
  have HE := Lib.hid hE
  clear hL hE hC
  go_enter Try.func11, Try.ntmps11
  go_wp2_with fail
  refine (refRight_any aL aE cL cE p locs edges _ (HL.out.ext (below_a1 _ _)) (HE.out.ext (below_a1 _ _)) hl0 hle).mono ?_
  rintro e w1 ⟨v, rfl, hb1, right, rfl, hr⟩
  have k0 : Blk w1 w.heap.size #[.slice aL locs.length cL, .slice aE edges.length cE, .int .i64 p] 25 := (Blk.new rfl).ext hb1
  have Hb1 := Lib.hid ((below_a1 _ _).trans (hb1.mono (by simp)))
  have Hr := Lib.hid hr
  have hs1 : w.heap.size < w1.heap.size := k0.lt
  have c0 := k0.cell 0
  have c1 := k0.cell 1
  have c2 := k0.cell 2
  simp only [List.getElem?_toArray, List.getElem?_cons_zero, List.getElem?_cons_succ] at c0 c1 c2
  clear hb1 hr k0
  cases right
  · go_wp2
    go_ret2
    exact ⟨_, rfl, Hb1.out, .inl ⟨fun h => by have := Hr.out.2 h; simp at this, rfl⟩⟩
  · have hR : RightG locs edges p := by have := Hr.out; simpa using this
    have hl := hR.most
    have HR := Lib.hid hR
    clear hR
    go_wp2_with fail
    refine (refEscapes_any aL aE cL cE p locs edges C w1 (HL.out.ext Hb1.out) (HE.out.ext Hb1.out) HR.out (HC.out HR.out) hle).mono ?_
    rintro e w2 ⟨v, rfl, hb2, bs, g, cap, rfl, hown, hbl, hbs⟩
    have Hb2 := Lib.hid (Hb1.out.trans (hb2.mono Hb1.out.size))
    have Hrow := Lib.hid (hown.mono (base' := w.heap.size) Hb1.out.size)
    have HIs : Hid (IsEsc locs C bs) := ⟨hbl, hbs⟩
    have hg : w1.heap.size ≤ g := by by_cases h0 : 0 < cap; exact (hown.size h0 rfl).1; exact hown.base rfl
    clear hb2 hown hbs
    go_wp2_with fail
    go_loopw [5, 7] (fun out i wq => ∃ (k : Nat) (a2 : Option Addr) (c2 : Nat), k ≤ locs.length ∧ out = .slice a2 (trues bs k).length c2 ∧ i = .int .i64 k ∧
      Hid (Own wq w.heap.size 3 1 a2 (trues bs k).length c2 ((trues bs k).map (Value.int .i64))) ∧ Hid (Own wq w.heap.size 4 1 (some ⟨g, 0, none⟩) locs.length cap (bs.map Value.bool)) ∧ Hid (Below w.heap.size w wq)) (fun _ i _ => locs.length - (intOf i).toNat)
    case atStart => exact ⟨0, none, 0, Nat.zero_le _, rfl, rfl, Own.nil _ _ _ _, by rw [← hbl]; exact Hrow, Hb2⟩
    case round =>
      clear Hrow Hb2
      obtain ⟨k, a2, c2, hk, rfl, rfl, hown, hrow, hb⟩ := hrel
      have htl := trues_len bs k
      have hsz := hb.out.size
      by_cases hlt : k < locs.length
      · obtain ⟨b, hbk⟩ := get_some (l := bs) (i := k) (by rw [HIs.out.1]; exact hlt)
        obtain ⟨m1, m2, m3, m4⟩ := hrow.out.at0 (j := k) hlt
        rw [List.getElem?_map, hbk] at m2
        simp only [Option.map_some] at m2
        have hkb : (k : Int) < locs.length := by omega
        have Hbk := Lib.hid hbk
        clear hbk
        cases b
        · go_wp2
          go_roundw
          case rel =>
            have e : trues bs (k + 1) = trues bs k := by have := Hbk.out; simp [trues, this]
            refine ⟨k + 1, a2, c2, by omega, by rw [e], by go_num, by rw [e]; exact hown, hrow, hb⟩
          case measure => simp [intOf]; omega
        · have e : trues bs (k + 1) = trues bs k ++ [(k : Int)] := by have := Hbk.out; simp [trues, this]
          go_wp2_with (at_builtin; refine wpList_append_Own (o := ⟨some 27, _, _, _, _, _⟩) rfl _ _ 28 rfl w.heap.size 3 _ 1 8 Try.underlying28 Try.infoInt rfl (by decide) a2 (trues bs k).length c2 _ rfl (by exact hown.out.alloc _) _ 1 1 [.int .i64 k] rfl (Row.new1 (by simp) rfl rfl) (by simp [Value.oneCell']) (by unfold maxLen; omega) (by omega) (by simp; omega) ?_; intro a5 c5 w5 hown5 hg5 hbk5)
          have hb5 := (hb.out.alloc (by omega) (.cells #[.int .i64 k] 3)).grown hg5 (by simp; omega) (fun y hy => hown.out.rowBase (Nat.le_refl _) y hy)
          have hr5 := (hrow.out.alloc (.cells #[.int .i64 k] 3)).keptType (hown.out.alloc (.cells #[.int .i64 k] 3)) (by decide) hg5
          go_roundw
          case rel =>
            refine ⟨k + 1, a5, c5, by omega, by rw [e]; simp, by go_num, ?_, hr5, hb5⟩
            show Own _ _ _ _ _ _ _ _
            rw [e]; simpa using hown5
          case measure => simp [intOf]; omega
      · obtain rfl : k = locs.length := by omega
        go_wp2
        go_ret2
        exact ⟨_, rfl, hb.out, .inr ⟨HR.out, bs, _, HIs.out, rfl, a2, c2, by rw [HIs.out.1]; rfl, by rw [HIs.out.1]; exact hown.out⟩⟩

end Go.Proofs.Ytadekfjgdbngdaa
