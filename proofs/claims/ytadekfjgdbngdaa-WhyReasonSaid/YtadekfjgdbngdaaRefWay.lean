/- The document's Way, walked. -/
import Derived.Test.YtadekfjgdbngdaaPlan
import Derived.Test.YtadekfjgdbngdaaSinks
namespace Go.Proofs.Ytadekfjgdbngdaa
open Go Go.RowKit

/-- what Way answers -/
def WayR (B : Nat) (locs : List LocD) (edges : List EdgeD) (p at_ : Int) (C : Nat → List Int) (v : Value) (w' : World) : Prop :=
  (¬ (RightG locs edges p ∧ 0 ≤ at_ ∧ at_ < locs.length) ∧ v = .tuple #[.slice none 0 0, .int .i64 161]) ∨
  (RightG locs edges p ∧ ∃ t : Nat, at_ = t ∧ t < locs.length ∧ ∃ bs, IsEsc locs C bs ∧
    ((bs[t]? ≠ some true ∧ v = .tuple #[.slice none 0 0, .int .i64 72]) ∨
     (bs[t]? = some true ∧ ∃ out x, IsWay edges (look0 (lpOf locs) bs t locs.length) t out ∧ v = .tuple #[x, .int .i64 0] ∧ OwnInts B out x w')))

/-- the rounds' looks, as the slices of all hold them -/
structure AllR (w : World) (B n : Nat) (LK : Nat → List Int) (m : Nat) (vals : List Value) : Prop where
  len : vals.length = m
  each : ∀ j, j < m → ∃ a c, vals[j]? = some (.slice a n c) ∧ Own w B 3 1 a n c ((LK j).map (Value.int .i64))
theorem AllR.snoc {w : World} {B n : Nat} {LK : Nat → List Int} {m : Nat} {vals : List Value} (h : AllR w B n LK m vals) {a : Option Addr} {c : Nat} (ho : Own w B 3 1 a n c ((LK m).map (Value.int .i64))) : AllR w B n LK (m + 1) (vals ++ [.slice a n c]) := by
  refine ⟨by simp [h.len], fun j hj => ?_⟩
  rcases Nat.lt_or_ge j m with q | q
  · obtain ⟨a', c', h1, h2⟩ := h.each j q
    exact ⟨a', c', by rw [List.getElem?_append_left (by rw [h.len]; exact q)]; exact h1, h2⟩
  · obtain rfl : j = m := by omega
    exact ⟨a, c, by rw [List.getElem?_append_right (by rw [h.len]; exact Nat.le_refl _), h.len, Nat.sub_self]; rfl, ho⟩
theorem AllR.ext {w w' : World} {B n : Nat} {LK : Nat → List Int} {m : Nat} {vals : List Value} (h : AllR w B n LK m vals) (hb : Below w.heap.size w w') : AllR w' B n LK m vals :=
  ⟨h.len, fun j hj => by obtain ⟨a, c, h1, h2⟩ := h.each j hj; exact ⟨a, c, h1, h2.ext hb⟩⟩
theorem AllR.grown {w w' : World} {B n base2 n2 cap2 sz2 : Nat} {e2 : TypeId} {a2 : Option Addr} {ys : List Value} {LK : Nat → List Int} {m : Nat} {vals : List Value} (h : AllR w B n LK m vals) (h2 : Own w base2 e2 sz2 a2 n2 cap2 ys) (hne : 3 ≠ e2) (hg : w.grownBy w' (rowOf a2 cap2)) : AllR w' B n LK m vals :=
  ⟨h.len, fun j hj => by obtain ⟨a, c, q1, q2⟩ := h.each j hj; exact ⟨a, c, q1, q2.keptType h2 hne hg⟩⟩

def lookL (lp : Nat → Int) (bs : List Bool) (t k m : Nat) : List Int := ((List.range k).map fun i => if Sink lp bs t i then 0 else -2) ++ List.replicate m 0
theorem lookL_get (lp : Nat → Int) (bs : List Bool) (t k m : Nat) : (lookL lp bs t k (m + 1))[k]? = some 0 := by
  unfold lookL
  rw [List.getElem?_append_right (by simp), List.length_map, List.length_range, Nat.sub_self]; rfl
theorem lookL_set (lp : Nat → Int) (bs : List Bool) (t k m : Nat) : (lookL lp bs t k (m + 1)).set k (if Sink lp bs t k then 0 else -2) = lookL lp bs t (k + 1) m := by
  unfold lookL
  rw [List.set_append_right _ _ (by simp), List.length_map, List.length_range, Nat.sub_self, List.replicate_succ, List.set_cons_zero, List.range_succ, List.map_append, List.append_assoc]
  rfl
theorem lookL_keep (lp : Nat → Int) (bs : List Bool) (t k m : Nat) (h : Sink lp bs t k) : lookL lp bs t k (m + 1) = lookL lp bs t (k + 1) m := by
  rw [← lookL_set, if_pos h]
  apply List.ext_getElem?
  intro i
  rw [List.getElem?_set]
  by_cases hki : k = i
  · rw [if_pos hki, ← hki, lookL_get, if_pos (get_lt (lookL_get lp bs t k m))]
  · rw [if_neg hki]
theorem lookL_len (lp : Nat → Int) (bs : List Bool) (t k m : Nat) : (lookL lp bs t k m).length = k + m := by simp [lookL]

theorem WPlan.small {E : List EdgeD} {n D : Nat} {l0 : List Int} {t : Nat} {LK : Nat → List Int} {K : Nat} (h : WPlan E n D l0 t LK K) (hD : D ≤ 1048576) (hm : n * (n * D + 2) ≤ 1099511627776) {k : Nat} (hk : k ≤ K) : ∀ x ∈ LK k, -2 ≤ x ∧ x ≤ 2305843009213693952 := fun x hx => by
  obtain ⟨h1, h2⟩ := h.bound k x hx
  have h3 : k * D ≤ 1099511627776 * 1048576 := Nat.mul_le_mul (by have := h.short; omega) hD
  exact ⟨h1, by omega⟩

set_option maxRecDepth 20000 in
set_option maxHeartbeats 16000000 in
theorem refWay_any (aL aE : Option Addr) (cL cE : Nat) (p at_ : Int) (locs : List LocD) (edges : List EdgeD) (D : Nat) (C : Nat → List Int) (w : World) (hL : Row w 5 aL locs.length (locs.flatMap LocD.cells)) (hE : Row w 3 aE edges.length (edges.flatMap EdgeD.cells))
    (hf : Fit locs edges D) (hC : RightG locs edges p → ComeAll edges locs.length C) :
    Calls Try.prog 9 #[.agg #[.slice aL locs.length cL, .slice aE edges.length cE, .int .i64 p], .int .i64 at_] w (Ret w (WayR w.heap.size locs edges p at_ C)) := by
  have hl := hf.l
  have hle := hf.e
  have HL := Lib.hid hL
  have HE := Lib.hid hE
  have HF := Lib.hid hf
  have HC := Lib.hid hC
  clear hL hE hf hC
  obtain ⟨i0, hi, hz0, hz1, hz2⟩ := info_parts Try.infoInt
  have Hi := Lib.hid hi
  clear hi
  go_enter Try.func9, Try.ntmps9
  go_wp2_with fail
  refine (refRight_any aL aE cL cE p locs edges _ (HL.out.ext (below_a1 _ _)) (HE.out.ext (below_a1 _ _)) (by unfold maxLen; omega) (by unfold maxLen; omega)).mono ?_
  rintro e w1 ⟨v, rfl, hb1, right, rfl, hr⟩
  have k0 : Blk w1 w.heap.size #[.slice aL locs.length cL, .slice aE edges.length cE, .int .i64 p] 25 := (Blk.new rfl).ext hb1
  have Hb1 := Lib.hid ((below_a1 _ _).trans (hb1.mono (by simp)))
  have Hr := Lib.hid hr
  clear hb1 hr
  have K0 := Lib.hid k0
  have c0 := k0.cell 0
  have c1 := k0.cell 1
  have c2 := k0.cell 2
  simp only [List.getElem?_toArray, List.getElem?_cons_zero, List.getElem?_cons_succ] at c0 c1 c2
  clear k0
  cases right
  · go_wp2
    go_ret2
    exact ⟨_, rfl, Hb1.out, .inl ⟨fun h => by have := Hr.out.2 h.1; simp at this, rfl⟩⟩
  · by_cases hto : 0 ≤ at_ ∧ at_ < locs.length
    · obtain ⟨ht0, ht1⟩ := hto
      obtain ⟨t, rfl⟩ := Int.eq_ofNat_of_zero_le ht0
      have f1 : decide ((t : Int) < 0) = false := by simp
      have f2 : decide ((locs.length : Int) ≤ (t : Int)) = false := by simp; omega
      have htn : t < locs.length := by omega
      have hR : RightG locs edges p := Hr.out.1 rfl
      have HR := Lib.hid hR
      clear hR
      go_wp2_with fail
      refine (refEscs_any aL aE cL cE p locs edges C _ (HL.out.ext Hb1.out) (HE.out.ext Hb1.out) HC.out hl hle).mono ?_
      rintro e w2 ⟨v, rfl, hb2, hr2⟩
      rcases hr2 with ⟨hno, _⟩ | ⟨_, bs, x, hbs, rfl, aX, cX, rfl, hownX⟩
      · exact absurd HR.out hno
      have k2 := K0.out.ext hb2
      have c0 := k2.cell 0
      have c1 := k2.cell 1
      have c2 := k2.cell 2
      simp only [List.getElem?_toArray, List.getElem?_cons_zero, List.getElem?_cons_succ] at c0 c1 c2
      have K2 := Lib.hid k2
      have Hb2 := Lib.hid (Hb1.out.trans (hb2.mono Hb1.out.size))
      have HBs := Lib.hid hbs
      have hlX : (trues bs bs.length).length ≤ 1099511627776 := by have h1 := trues_len bs bs.length; have h2 := hbs.1; omega
      have HmX : Hid ((t : Int) ∈ trues bs bs.length ↔ bs[t]? = some true) := by
        refine Lib.hid ?_
        rw [mem_trues]
        constructor
        · rintro ⟨j, hj, _, h2⟩
          obtain rfl : t = j := by omega
          exact h2
        · intro h; exact ⟨t, rfl, get_lt h, h⟩
      have HrX := Lib.hid hownX.row
      generalize trues bs bs.length = lX at *
      clear k2 hb2 hownX hbs
      by_cases hin : bs[t]? = some true
      · have fin : decide ((t : Int) ∈ lX) = true := by simpa using HmX.out.2 hin
        have Hin := Lib.hid hin
        clear hin
        go_wp2_with fail
        refine (has_any aX cX lX t _ HrX.out hlX).mono ?_
        rintro e w' ⟨rfl, rfl⟩
        go_wp2_with (at_make; refine wpList_make_full _ rfl _ _ 28 rfl w.heap.size 3 i0 (.int .i64 0) 1 Try.underlying28 Hi.out hz0 hz1 _ _ _ _ locs.length rfl rfl rfl rfl ?b1 ?b2 ?b3 ?_)
        case b1 => rw [hz2]; omega
        case b2 => unfold maxLen; omega
        case b3 => exact Hb2.out.size
        intro w3 hown hg
        simp only [toList_madeCells_one] at hown
        obtain ⟨a', cap', he, hown', -, -⟩ := Own.ofOwns hown
        simp only [Value.slice.injEq, true_and] at he
        obtain ⟨rfl, rfl⟩ := he
        generalize hgg : w2.heap.size = g at hown' ⊢
        have hs3 := (hown'.size (by omega) rfl).2
        have k3 := K2.out.grown hg (by simp)
        have c0 := k3.cell 0
        have c1 := k3.cell 1
        have c2 := k3.cell 2
        simp only [List.getElem?_toArray, List.getElem?_cons_zero, List.getElem?_cons_succ] at c0 c1 c2
        have K3 := Lib.hid k3
        have Hb3 := Lib.hid (Hb2.out.grown hg Hb2.out.size (fun k h => by cases h))
        have Hown := Lib.hid hown'
        have Hwg : Hid (w.heap.size < g) := by refine Lib.hid ?_; have := K2.out.lt; omega
        clear hown hown' hg k3 hgg
        go_wp2_with fail
        refine (sinks_any aL aE cL cE p t locs edges C bs _ (HL.out.ext Hb3.out) (HE.out.ext Hb3.out) HR.out (HC.out HR.out) HBs.out htn hle).mono ?_
        rintro e w4 ⟨v, rfl, hb4, gs, rfl, hownS⟩
        have HownS := Lib.hid hownS
        have Hown4 : Hid (Own w4 w.heap.size 3 1 (some ⟨g, 0, none⟩) locs.length locs.length ((lookL (lpOf locs) bs t 0 (locs.length - 0)).map (Value.int .i64))) := by
          refine Lib.hid ?_
          have := Hown.out.ext hb4
          simpa [lookL] using this
        have K4 := Lib.hid (K3.out.ext hb4)
        have Hb4 := Lib.hid (Hb3.out.trans (hb4.mono Hb3.out.size))
        have Hgs : Hid (g < gs) := by refine Lib.hid ?_; have h1 := hownS.base (g := gs) rfl; omega
        clear hownS Hown hb4 c0 c1 c2
        go_wp2_with fail
        go_loopw [12] (fun i wr => ∃ k : Nat, k ≤ locs.length ∧ i = .int .i64 k ∧ Hid (Own wr w.heap.size 3 1 (some ⟨g, 0, none⟩) locs.length locs.length ((lookL (lpOf locs) bs t k (locs.length - k)).map (Value.int .i64))) ∧ Hid (Own wr w.heap.size 4 1 (some ⟨gs, 0, none⟩) locs.length locs.length (sinkL (lpOf locs) bs t locs.length 0)) ∧ Hid (Below w.heap.size w wr) ∧ Hid (Blk wr w.heap.size #[.slice aL locs.length cL, .slice aE edges.length cE, .int .i64 p] 25)) (fun i _ => locs.length - (intOf i).toNat)
        case atStart => exact ⟨0, Nat.zero_le _, rfl, Hown4, by refine Lib.hid ?_; exact HownS.out.mono (by have := Hb3.out.size; omega), Hb4, K4⟩
        case round =>
          clear Hown4 HownS Hb4 K4
          obtain ⟨k, hk, rfl, hown, hownS, hb, hG⟩ := hrel
          by_cases hlt : k < locs.length
          · obtain ⟨-, s2, -, -⟩ := hownS.out.at0 hlt
            have e2 : (sinkL (lpOf locs) bs t locs.length 0)[k]? = some (.bool (decide (Sink (lpOf locs) bs t k))) := by simp [sinkL, hlt]
            rw [e2] at s2
            obtain ⟨h1, h2, h3, h4⟩ := hown.out.at0 hlt
            rw [List.getElem?_map, show locs.length - k = (locs.length - (k + 1)) + 1 from by omega, lookL_get] at h2
            simp only [Option.map_some] at h2
            clear e2
            by_cases hs : Sink (lpOf locs) bs t k
            · rw [decide_eq_true hs] at s2
              have Hs := Lib.hid hs
              clear hs
              go_wp2
              go_roundw
              case rel => exact ⟨k + 1, by omega, by go_num, by have := hown.out; rw [show locs.length - k = (locs.length - (k + 1)) + 1 from by omega, lookL_keep _ _ _ _ _ Hs.out] at this; exact this, hownS, hb, hG⟩
              case measure => simp [intOf]; omega
            · rw [decide_eq_false hs] at s2
              have h5 := hown.out.set0 hlt (.int .i64 (-2))
              rw [← List.map_set, show locs.length - k = (locs.length - (k + 1)) + 1 from by omega, show ((-2 : Int)) = (if Sink (lpOf locs) bs t k then 0 else -2) from by rw [if_neg hs], lookL_set, if_neg hs] at h5
              have H5 := Lib.hid h5
              have Hs := Lib.hid (hownS.out.setCell_other (p := ⟨g, k, none⟩) (by simp [blockOf]; have := Hgs.out; omega) (.int .i64 (-2)))
              have Hb5 := Lib.hid (hb.out.setCell (p := ⟨g, k, none⟩) h3 (.int .i64 (-2)))
              have HK5 := Lib.hid (hG.out.other (p := ⟨g, k, none⟩) (by show _ ≠ g; have := Hwg.out; omega) (.int .i64 (-2)))
              clear hs h5
              go_wp2
              go_roundw
              case rel => exact ⟨k + 1, by omega, by go_num, H5, Hs, Hb5, HK5⟩
              case measure => simp [intOf]; omega
          · obtain rfl : k = locs.length := by omega
            have h6 := hown.out
            have e6 : lookL (lpOf locs) bs t locs.length (locs.length - locs.length) = look0 (lpOf locs) bs t locs.length := by simp [lookL, look0]
            rw [e6] at h6
            have hok : ∀ e ∈ edges, EdgeOk locs.length e := fun e he => by obtain ⟨j, hj, rfl⟩ := List.getElem_of_mem he; exact HR.out.edges j _ (List.getElem?_eq_getElem hj)
            obtain ⟨LK, N, hplan⟩ := plan_exists (HC.out HR.out) HBs.out Hin.out hok HF.out.deref
            rw [← hplan.zero] at h6
            have hN : N ≤ 1099511627776 := Nat.le_trans hplan.short HF.out.m
            have hN1 := hplan.one
            have Hplan := Lib.hid hplan
            have Hok := Lib.hid hok
            have H6 := Lib.hid (h6.mono (base' := w.heap.size) (Nat.le_refl _))
            clear h6 e6 hplan hok hown hownS
            go_wp2_with fail
            have hsz6 : w.heap.size + 1 ≤ wr.heap.size := hG.out.lt
            have HownA : Hid (Own (wr.alloc (.cells #[.slice (some ⟨g, 0, none⟩) locs.length locs.length] 28)) (w.heap.size + 1) 28 1 (some ⟨wr.heap.size, 0, none⟩) (0 + 1) 1 [.slice (some ⟨g, 0, none⟩) locs.length locs.length]) := by
              refine Lib.hid (Own.ofBlock hsz6 (Blk.new rfl) rfl (by decide))
            have Hall : Hid (AllR (wr.alloc (.cells #[.slice (some ⟨g, 0, none⟩) locs.length locs.length] 28)) (w.heap.size + 1) locs.length LK (0 + 1) [.slice (some ⟨g, 0, none⟩) locs.length locs.length]) := by
              refine Lib.hid ⟨rfl, fun j hj => ?_⟩
              obtain rfl : j = 0 := by omega
              refine ⟨some ⟨g, 0, none⟩, locs.length, rfl, ?_⟩
              have h7 := H6.out.alloc (.cells #[.slice (some ⟨g, 0, none⟩) locs.length locs.length] 28)
              refine ⟨h7.1, ?_⟩
              rcases h7.2 with ⟨q1, _⟩ | ⟨g', off', cur', q1, q2, q3, q4⟩
              · omega
              · cases q1; exact .inr ⟨g, 0, cur', rfl, by have := Hwg.out; omega, q3, q4⟩
            have Hb7 := Lib.hid (hb.out.alloc hb.out.size (.cells #[.slice (some ⟨g, 0, none⟩) locs.length locs.length] 28))
            have HG7 := Lib.hid (hG.out.alloc (.cells #[.slice (some ⟨g, 0, none⟩) locs.length locs.length] 28))
            clear H6 hb hG hsz6
            go_loopg [13] N (fun q all wr => ∃ (m : Nat) (aA : Option Addr) (cA : Nat) (vals : List Value), m ≤ N ∧ q = N - m ∧ all = .slice aA (m + 1) cA ∧ Hid (Own wr (w.heap.size + 1) 28 1 aA (m + 1) cA vals) ∧ Hid (AllR wr (w.heap.size + 1) locs.length LK (m + 1) vals) ∧ Hid (Below w.heap.size w wr) ∧ Hid (Blk wr w.heap.size #[.slice aL locs.length cL, .slice aE edges.length cE, .int .i64 p] 25))
            case atStart => exact ⟨0, _, 1, _, Nat.zero_le _, rfl, rfl, HownA, Hall, Hb7, HG7⟩
            case round =>
              clear HownA Hall Hb7 HG7
              obtain ⟨m, aA, cA, vals, hmN, rfl, rfl, hownA, hall, hb, hG⟩ := hrel
              obtain ⟨aM, cM, v1, ownM⟩ := hall.out.each m (by omega)
              have HrM : Hid (Row wr 1 aM (LK m).length ((LK m).map (Value.int .i64))) := by
                refine Lib.hid ?_; rw [Hplan.out.len m]; exact ownM.row
              obtain ⟨bA, oA, rfl, hcA⟩ := hownA.out.row.2 (by omega)
              have m1 := hcA m (by omega)
              rw [v1] at m1
              obtain ⟨lt0, hlt0⟩ := get_some (l := LK m) (i := t) (by rw [Hplan.out.len m]; exact htn)
              obtain ⟨bM, oM, rfl, m2⟩ := row_int HrM.out hlt0
              have Hlt0 := Lib.hid hlt0
              have c0 := hG.out.cell 0
              have c1 := hG.out.cell 1
              have c2 := hG.out.cell 2
              simp only [List.getElem?_toArray, List.getElem?_cons_zero, List.getElem?_cons_succ] at c0 c1 c2
              have hl0 : 0 < locs.length := by omega
              have Hleast : m ≤ N → Hid (Calls Try.prog 27 #[.agg #[.slice aL locs.length cL, .slice aE edges.length cE, .int .i64 p], .slice (some ⟨bM, oM, none⟩) locs.length cM] wr.drew (Ret wr.drew (IntsOf wr.drew.heap.size (Longer edges (LK m))))) := fun hm => by
                refine Lib.hid ?_
                have h := least_any aL aE (some ⟨bM, oM, none⟩) cL cE cM p locs edges (LK m) wr.drew (HE.out.ext hb.out.drew) HrM.out (Hplan.out.len m) Hok.out hl hl0 (by omega) (Hplan.out.small HF.out.d HF.out.m hm)
                rw [Hplan.out.len m] at h
                exact h
              have hmle : m ≤ 1099511627776 := by omega
              have hwr : IntKind.i64.wrap (m : Int) = (m : Int) := by simp [IntKind.wrap, IntKind.bits, IntKind.signed]; omega
              have hlm : (m : Int) < (m : Int) + 1 := by omega
              clear ownM hcA v1 hlt0
              by_cases hstop : m = N
              · have hl1 : lt0 = -1 := by have h := Hplan.out.last; rw [← hstop, Hlt0.out] at h; simpa using h
                have fne : (lt0 != -1) = false := by simp [hl1]
                have hm2 : ¬ (m : Int) + 1 < 2 := by omega
                have Hl1 := Lib.hid hl1
                have Hstop := Lib.hid hstop
                clear hl1 hstop
                go_wp2_with fail
                obtain ⟨W7, rfl⟩ : ∃ W, W = wr := ⟨_, rfl⟩
                have hN7 := Hstop.out
                subst hN7
                have HownO : Hid (Own (W7.alloc (.cells #[.int .i64 t] 3)) W7.heap.size 3 1 (some ⟨W7.heap.size, 0, none⟩) (0 + 1) 1 ([(t : Int)].map (Value.int .i64))) := Lib.hid (Own.ofBlock (Nat.le_refl _) (Blk.new rfl) rfl (by decide))
                have Hb8 := Lib.hid (below_a1 W7 (.cells #[.int .i64 t] 3))
                have HrAll : Hid (∀ j, j < m + 1 → ∃ a c, W7.cell? ⟨bA, oA + j, none⟩ = some (.slice a locs.length c) ∧ Row W7 1 a (LK j).length ((LK j).map (Value.int .i64))) := fun j hj => by
                  obtain ⟨a, c, q1, q2⟩ := hall.out.each j hj
                  obtain ⟨b', o', q3, q4⟩ := hownA.out.row.2 (by omega)
                  cases q3
                  exact ⟨a, c, by rw [q4 j (by omega), q1], by rw [Hplan.out.len j]; exact q2.row⟩
                have HG7 := hG
                have Hb7 := hb
                clear m1 m2 c0 c1 c2 hG hb hall hownA HrM Hlt0 hwr hlm Hleast
                go_loopw [14, 15, 16] (fun o mo k wr => ∃ (j l : Nat) (c mm : Int) (out : List Int) (aO : Option Addr) (cO : Nat), j ≤ m ∧ l + j = m ∧ o = .slice aO (l + 1) cO ∧ mo = .int .i64 mm ∧ k = .int .i64 ((j : Int) - 1) ∧ out.length = l + 1 ∧ (-1 ≤ mm ∧ mm ≤ l) ∧ Hid (Desc edges (look0 (lpOf locs) bs t locs.length) m t j c mm out) ∧ Hid (Own wr W7.heap.size 3 1 aO (l + 1) cO (out.map (Value.int .i64))) ∧ Hid (Below W7.heap.size W7 wr)) (fun _ _ k _ => (intOf k + 1).toNat)
                case atStart => exact ⟨m, 0, t, -1, [(t : Int)], _, 1, Nat.le_refl _, by omega, rfl, rfl, by go_num, rfl, by omega, Desc.start, HownO, Hb8⟩
                case round =>
                  clear HownO Hb8
                  obtain ⟨j, l, c, mm, out, aO, cO, hj, hlj, rfl, rfl, rfl, hout, ⟨hm1, hm2⟩, hdesc, hownO, hb⟩ := hrel
                  have hG := HG7.out.ext hb.out
                  rcases Nat.eq_zero_or_pos j with hj0 | hj0
                  · subst hj0
                    go_wp2
                    go_ret2
                    refine ⟨_, rfl, Hb7.out.trans (hb.out.mono Hb7.out.size), .inr ⟨HR.out, t, rfl, htn, bs, HBs.out, .inr ⟨Hin.out, out, _, ⟨m, Hplan.out.one, ⟨LK m, Hplan.out.looks m, Hplan.out.last⟩, fun j a h1 h2 ha => by obtain rfl := ha.unique (Hplan.out.looks j); exact Hplan.out.first j h1 h2, c, mm, hdesc.out⟩, rfl, aO, cO, ?_, ?_⟩⟩⟩
                    · rw [hout]; rfl
                    · rw [hout]; exact hownO.out.mono Hb7.out.size
                  · obtain ⟨j, rfl⟩ : ∃ i, j = i + 1 := ⟨j - 1, by omega⟩
                    have ej : ((j + 1 : Nat) : Int) - 1 = (j : Int) := by omega
                    rw [ej]
                    have ho1 : out[l]? = some c := by
                      obtain ⟨pre, hp⟩ := hdesc.out.last
                      have h1 := congrArg List.length hp
                      simp at h1
                      rw [hp, List.getElem?_append_right (by omega), show l - pre.length = 0 from by omega]; rfl
                    have hrO := hownO.out.row
                    rw [← hout] at hrO
                    obtain ⟨bO, oO, rfl, o1⟩ := row_int hrO ho1
                    obtain ⟨aM', cM, q1, q2⟩ := HrAll.out j (by omega)
                    have m1 := below_ext hb.out q1
                    have hrM := q2.ext hb.out
                    have hl0 : 0 < locs.length := by omega
                    obtain ⟨bM, oM, hM, -⟩ := hrM.2 (by rw [Hplan.out.len j]; omega)
                    subst hM
                    have c0 := hG.cell 0
                    have c1 := hG.cell 1
                    have c2 := hG.cell 2
                    simp only [List.getElem?_toArray, List.getElem?_cons_zero, List.getElem?_cons_succ] at c0 c1 c2
                    obtain ⟨e, he1, he2, he3⟩ := Desc.more (n := locs.length) (fun a ha => by obtain rfl := ha.unique (Hplan.out.looks m); exact Hplan.out.last) (by omega) (by omega) Hok.out hdesc.out (Hplan.out.looks j) (Hplan.out.looks (j + 1))
                    have Hstep : Hid (Calls Try.prog 28 #[.agg #[.slice aL locs.length cL, .slice aE edges.length cE, .int .i64 p], .int .i64 c, .int .i64 mm, .slice (some ⟨bM, oM, none⟩) locs.length cM] wr.drew (Ret wr.drew (fun v _ => ∃ d r, v = .tuple #[.int .i64 d, .int .i64 r] ∧ IsStep edges (LK j) c mm d r))) := by
                      refine Lib.hid ?_
                      have h := step_any aL aE (some ⟨bM, oM, none⟩) cL cE cM p c mm locs edges (LK j) wr.drew (HE.out.ext ((Hb7.out.trans (hb.out.mono Hb7.out.size)).drew)) hrM (Hplan.out.len j) Hok.out (by omega) (Hplan.out.small HF.out.d HF.out.m (by omega)) hl hm1 (by omega) ⟨e, he1, he2, he3⟩
                      rw [Hplan.out.len j] at h
                      exact h
                    have hwr : IntKind.i64.wrap (l : Int) = (l : Int) := by simp [IntKind.wrap, IntKind.bits, IntKind.signed]; omega
                    have hlm : (l : Int) < (l : Int) + 1 := by omega
                    have hjm : (j : Int) < (m : Int) + 1 := by omega
                    clear hrM q1 q2 hrO ho1 hG he1 he2 he3 ej
                    go_wp2_with fail
                    refine wp_region_held_drew (S := fun w' => w'.cell? ⟨w.heap.size, 0, none⟩ = some (.slice aL locs.length cL) ∧ w'.cell? ⟨w.heap.size, 1, none⟩ = some (.slice aE edges.length cE) ∧ w'.cell? ⟨w.heap.size, 2, none⟩ = some (.int .i64 p) ∧ w'.cell? ⟨bO, oO + l, none⟩ = some (.int .i64 c) ∧ w'.cell? ⟨bA, oA + j, none⟩ = some (.slice (some ⟨bM, oM, none⟩) locs.length cM)) (by kernel_rfl) ?_ (fun hHeld => ?_)
                    · go_keep
                    refine wpAnyH_take (i := 0) (oi := ⟨some 103, _, _, _, _, _⟩) (v := ?_) rfl (by kernel_rfl) (by kernel_rfl) (by kernel_rfl) (fun _ _ _ h => h) (Or.inl ⟨by rfl, ?_⟩) (by assumption) ?_; rotate_left; focus (intro w hSw; (try dsimp only at hSw); first | (go_simp; done) | (go_simp; with_reducible rfl))
                    try simp only [Act.put]
                    try simp only [List.setIfInBounds_toArray]
                    try simp only [List.set_cons_succ, List.set_cons_zero]
                    refine wpAnyH_take (i := 1) (oi := ⟨some 104, _, _, _, _, _⟩) (v := ?_) rfl (by kernel_rfl) (by kernel_rfl) (by kernel_rfl) (fun _ _ _ h => h) (Or.inl ⟨by rfl, ?_⟩) (by assumption) ?_; rotate_left; focus (intro w hSw; (try dsimp only at hSw); first | (go_simp; done) | (go_simp; with_reducible rfl))
                    try simp only [Act.put]
                    try simp only [List.setIfInBounds_toArray]
                    try simp only [List.set_cons_succ, List.set_cons_zero]
                    refine wpAnyH_take (i := 2) (oi := ⟨some 105, _, _, _, _, _⟩) (v := ?_) rfl (by kernel_rfl) (by kernel_rfl) (by kernel_rfl) (fun _ _ _ h => h) (Or.inl ⟨by rfl, ?_⟩) (by assumption) ?_; rotate_left; focus (intro w hSw; (try dsimp only at hSw); first | (go_simp; done) | (go_simp; with_reducible rfl))
                    try simp only [Act.put]
                    try simp only [List.setIfInBounds_toArray]
                    try simp only [List.set_cons_succ, List.set_cons_zero]
                    refine wpAnyH_take (i := 3) (oi := ⟨some 106, _, _, _, _, _⟩) (v := ?_) rfl (by kernel_rfl) (by kernel_rfl) (by kernel_rfl) (fun _ _ _ h => h) (Or.inl ⟨by rfl, ?_⟩) (by assumption) ?_; rotate_left; focus (intro w hSw; (try dsimp only at hSw); first | (go_simp; done) | (go_simp; with_reducible rfl))
                    try simp only [Act.put]
                    try simp only [List.setIfInBounds_toArray]
                    try simp only [List.set_cons_succ, List.set_cons_zero]
                    refine wpAnyH_take (i := 4) (oi := ⟨some 107, _, _, _, _, _⟩) (v := ?_) rfl (by kernel_rfl) (by kernel_rfl) (by kernel_rfl) (fun _ _ _ h => h) (Or.inl ⟨by rfl, ?_⟩) (by assumption) ?_; rotate_left; focus (intro w hSw; (try dsimp only at hSw); first | (go_simp; done) | (go_simp; with_reducible rfl))
                    try simp only [Act.put]
                    try simp only [List.setIfInBounds_toArray]
                    try simp only [List.set_cons_succ, List.set_cons_zero]
                    refine wpAnyH_take (i := 5) (oi := ⟨some 108, _, _, _, _, _⟩) (v := ?_) rfl (by kernel_rfl) (by kernel_rfl) (by kernel_rfl) (fun _ _ _ h => h) (Or.inl ⟨by rfl, ?_⟩) (by assumption) ?_; rotate_left; focus (intro w hSw; (try dsimp only at hSw); first | (go_simp; done) | (go_simp; with_reducible rfl))
                    try simp only [Act.put]
                    try simp only [List.setIfInBounds_toArray]
                    try simp only [List.set_cons_succ, List.set_cons_zero]
                    refine wpAnyH_take (i := 6) (oi := ⟨some 109, _, _, _, _, _⟩) (v := ?_) rfl (by kernel_rfl) (by kernel_rfl) (by kernel_rfl) (fun _ _ _ h => h) (Or.inl ⟨by rfl, ?_⟩) (by assumption) ?_; rotate_left; focus (intro w hSw; (try dsimp only at hSw); first | (go_simp; done) | (go_simp; with_reducible rfl))
                    try simp only [Act.put]
                    try simp only [List.setIfInBounds_toArray]
                    try simp only [List.set_cons_succ, List.set_cons_zero]
                    refine wpAnyH_take (i := 7) (oi := ⟨some 110, _, _, _, _, _⟩) (v := ?_) rfl (by kernel_rfl) (by kernel_rfl) (by kernel_rfl) (fun _ _ _ h => h) (Or.inl ⟨by rfl, ?_⟩) (by assumption) ?_; rotate_left; focus (intro w hSw; (try dsimp only at hSw); first | (go_simp; done) | (go_simp; with_reducible rfl))
                    try simp only [Act.put]
                    try simp only [List.setIfInBounds_toArray]
                    try simp only [List.set_cons_succ, List.set_cons_zero]
                    refine wpAnyH_take (i := 8) (oi := ⟨some 111, _, _, _, _, _⟩) (v := ?_) rfl (by kernel_rfl) (by kernel_rfl) (by kernel_rfl) (fun _ _ _ h => h) (Or.inl ⟨by rfl, ?_⟩) (by assumption) ?_; rotate_left; focus (intro w hSw; (try dsimp only at hSw); first | (go_simp; done) | (go_simp; with_reducible rfl))
                    try simp only [Act.put]
                    try simp only [List.setIfInBounds_toArray]
                    try simp only [List.set_cons_succ, List.set_cons_zero]
                    refine wpAnyH_take (i := 9) (oi := ⟨some 112, _, _, _, _, _⟩) (v := ?_) rfl (by kernel_rfl) (by kernel_rfl) (by kernel_rfl) (fun _ _ _ h => h) (Or.inl ⟨by rfl, ?_⟩) (by assumption) ?_; rotate_left; focus (intro w hSw; (try dsimp only at hSw); first | (go_simp; done) | (go_simp; with_reducible rfl))
                    try simp only [Act.put]
                    try simp only [List.setIfInBounds_toArray]
                    try simp only [List.set_cons_succ, List.set_cons_zero]
                    refine wpAnyH_take (i := 10) (oi := ⟨some 113, _, _, _, _, _⟩) (v := ?_) rfl (by kernel_rfl) (by kernel_rfl) (by kernel_rfl) (fun _ _ _ h => h) (Or.inl ⟨by rfl, ?_⟩) (by assumption) ?_; rotate_left; focus (intro w hSw; (try dsimp only at hSw); first | (go_simp; done) | (go_simp; with_reducible rfl))
                    try simp only [Act.put]
                    try simp only [List.setIfInBounds_toArray]
                    try simp only [List.set_cons_succ, List.set_cons_zero]
                    refine wpAnyH_take (i := 11) (oi := ⟨some 114, _, _, _, _, _⟩) (v := ?_) rfl (by kernel_rfl) (by kernel_rfl) (by kernel_rfl) (fun _ _ _ h => h) (Or.inl ⟨by rfl, ?_⟩) (by assumption) ?_; rotate_left; focus (intro w hSw; (try dsimp only at hSw); first | (go_simp; done) | (go_simp; with_reducible rfl))
                    try simp only [Act.put]
                    try simp only [List.setIfInBounds_toArray]
                    try simp only [List.set_cons_succ, List.set_cons_zero]
                    refine wpAnyH_ready (rs := [12]) (by kernel_rfl) (by simp) ?_
                    refine AllReadyH.cons (i := 12) (o := ⟨some 115, _, _, _, _, _⟩) rfl (fun K hK => ?_) ?_
                    · go_simp
                      refine Hstep.out.mono ?_
                      rintro e w5 ⟨v, rfl, hb5, d, r, rfl, hstep⟩
                      replace hb5 : Below wr.heap.size wr w5 := (Below.refl wr.heap.size wr).drew.trans (show Below wr.heap.size wr.drew w5 from hb5)
                      have Hdesc2 := Lib.hid (Desc.step hdesc.out (Hplan.out.looks j) hstep)
                      have hrr : -1 ≤ r ∧ r ≤ (l : Int) + 1 := by
                        have h1 := (Hdesc2.out.room (n := locs.length) (fun a ha => by obtain rfl := ha.unique (Hplan.out.looks m); exact Hplan.out.last) (by omega) (by omega) Hok.out).2.2.1
                        obtain ⟨e, he, _, _, _, h2, _⟩ := hstep
                        have := (Hok.out e he).2.2.2.2.1
                        omega
                      have k0' := below_ext hb5 c0
                      have k1' := below_ext hb5 c1
                      have k2' := below_ext hb5 c2
                      have k3' := below_ext hb5 o1
                      have k4' := below_ext hb5 m1
                      have Hb5 := Lib.hid (hb.out.trans (hb5.mono hb.out.size))
                      have HownO5 := Lib.hid (hownO.out.ext hb5)
                      have hX5 : W7.heap.size ≤ w5.heap.size := Hb5.out.size
                      clear hstep hb5
                      refine hK.out _ _ ?_ (fun hHeld => ?_)
                      · exact ⟨k0', k1', k2', k3', k4'⟩
                      try simp only [Act.put]
                      try simp only [List.setIfInBounds_toArray]
                      try simp only [List.set_cons_succ, List.set_cons_zero]
                      refine wpAnyH_take (i := 13) (oi := ⟨some 102, _, _, _, _, _⟩) (v := ?_) rfl (by kernel_rfl) (by kernel_rfl) (by kernel_rfl) (fun _ _ _ h => h) (Or.inl ⟨by rfl, ?_⟩) (by assumption) ?_; rotate_left; focus (intro w hSw; (try dsimp only at hSw); first | (go_simp; done) | (go_simp; with_reducible rfl))
                      try simp only [Act.put]
                      try simp only [List.setIfInBounds_toArray]
                      try simp only [List.set_cons_succ, List.set_cons_zero]
                      refine wpAnyH_take (i := 14) (oi := ⟨some 116, _, _, _, _, _⟩) (v := ?_) rfl (by kernel_rfl) (by kernel_rfl) (by kernel_rfl) (fun _ _ _ h => h) (Or.inl ⟨by rfl, ?_⟩) (by assumption) ?_; rotate_left; focus (intro w hSw; (try dsimp only at hSw); first | (go_simp; done) | (go_simp; with_reducible rfl))
                      try simp only [Act.put]
                      try simp only [List.setIfInBounds_toArray]
                      try simp only [List.set_cons_succ, List.set_cons_zero]
                      refine wpAnyH_take (i := 15) (oi := ⟨some 117, _, _, _, _, _⟩) (v := ?_) rfl (by kernel_rfl) (by kernel_rfl) (by kernel_rfl) (fun _ _ _ h => h) (Or.inl ⟨by rfl, ?_⟩) (by assumption) ?_; rotate_left; focus (intro w hSw; (try dsimp only at hSw); first | (go_simp; done) | (go_simp; with_reducible rfl))
                      try simp only [Act.put]
                      try simp only [List.setIfInBounds_toArray]
                      try simp only [List.set_cons_succ, List.set_cons_zero]
                      refine wpAnyH_take (i := 16) (oi := ⟨some 17, _, _, _, _, _⟩) (v := ?_) rfl (by kernel_rfl) (by kernel_rfl) (by kernel_rfl) (fun _ _ _ h => h) (Or.inl ⟨by rfl, ?_⟩) (by assumption) ?_; rotate_left; focus (intro w hSw; (try dsimp only at hSw); first | (go_simp; done) | (go_simp; with_reducible rfl))
                      try simp only [Act.put]
                      try simp only [List.setIfInBounds_toArray]
                      try simp only [List.set_cons_succ, List.set_cons_zero]
                      refine wpAnyH_take (i := 17) (oi := ⟨some 18, _, _, _, _, _⟩) (v := ?_) rfl (by kernel_rfl) (by kernel_rfl) (by kernel_rfl) (fun _ _ _ h => h) (Or.inl ⟨by rfl, ?_⟩) (by assumption) ?_; rotate_left; focus (intro w hSw; (try dsimp only at hSw); first | (go_simp; done) | (go_simp; with_reducible rfl))
                      try simp only [Act.put]
                      try simp only [List.setIfInBounds_toArray]
                      try simp only [List.set_cons_succ, List.set_cons_zero]
                      refine wpAnyH_done (by kernel_rfl) ?_ _
                      clear k0' k1' k2' k3' k4' hHeld
                      go_wp2_with (at_builtin; refine wpList_append_Own rfl _ _ 28 rfl W7.heap.size 3 _ 1 8 Try.underlying28 Try.infoInt rfl (by decide) (some ⟨bO, oO, none⟩) (l + 1) cO _ rfl (by exact HownO5.out.alloc _) _ 1 1 [.int .i64 d] rfl (Row.new1 (by simp) rfl rfl) (by simp [Value.oneCell']) (by unfold maxLen; omega) (by omega) (by simp; omega) ?_; intro aO' cO' w6 hown6 hg6 hbk6; have Hown6 := Lib.hid hown6; have Hb6 := Lib.hid ((Hb5.out.alloc Hb5.out.size _).grown hg6 (by simp; omega) (fun q hq => HownO5.out.rowBase (Nat.le_refl _) q hq)); clear hown6 hg6 hbk6)
                      go_roundw
                      case rel =>
                        refine ⟨j, l + 1, d, r, out ++ [d], aO', cO', by omega, by omega, by go_num, rfl, by go_num, by simp [hout], by omega, Hdesc2, ?_, Hb6⟩
                        have := Hown6.out
                        rw [List.map_append]; exact this
                      case measure => first | (simp [intOf]; done) | (simp [intOf]; omega)
                    exact AllReadyH.nil
              · replace Hleast := Hleast hmN
                have hmN2 : m + 1 ≤ N := by omega
                have hgo : m = 0 ∨ (1 ≤ m ∧ lt0 ≠ -1) := by
                  rcases Nat.eq_zero_or_pos m with h | h
                  · exact .inl h
                  · refine .inr ⟨h, fun h2 => Hplan.out.first m h (by omega) ?_⟩
                    rw [Hlt0.out, h2]
                rcases hgo with hm0 | ⟨hm1, hne⟩
                · have hm2 : (m : Int) + 1 < 2 := by omega
                  clear hm0
                  go_wp2_with fail
                  refine wp_region_held_drew (S := fun _ => True) (by kernel_rfl) ?_ (fun hHeld => ?_)
                  · trivial
                  refine wpAnyH_take (i := 0) (oi := ⟨some 82, _, _, _, _, _⟩) (v := ?_) rfl (by kernel_rfl) (by kernel_rfl) (by kernel_rfl) (fun _ _ _ h => h) (Or.inl ⟨by rfl, ?_⟩) (by assumption) ?_; rotate_left; focus (intro w hSw; (try dsimp only at hSw); first | (go_simp; done) | (go_simp; with_reducible rfl))
                  try simp only [Act.put]
                  try simp only [List.setIfInBounds_toArray]
                  try simp only [List.set_cons_succ, List.set_cons_zero]
                  refine wpAnyH_take (i := 2) (oi := ⟨some 84, _, _, _, _, _⟩) (v := ?_) rfl (by kernel_rfl) (by kernel_rfl) (by kernel_rfl) (fun _ _ _ h => h) (Or.inl ⟨by rfl, ?_⟩) (by assumption) ?_; rotate_left; focus (intro w hSw; (try dsimp only at hSw); first | (go_simp; done) | (go_simp; with_reducible rfl))
                  try simp only [Act.put]
                  try simp only [List.setIfInBounds_toArray]
                  try simp only [List.set_cons_succ, List.set_cons_zero]
                  refine wpAnyH_take (i := 3) (oi := ⟨some 85, _, _, _, _, _⟩) (v := ?_) rfl (by kernel_rfl) (by kernel_rfl) (by kernel_rfl) (fun _ _ _ h => h) (Or.inl ⟨by rfl, ?_⟩) (by assumption) ?_; rotate_left; focus (intro w hSw; (try dsimp only at hSw); first | (go_simp; done) | (go_simp; with_reducible rfl))
                  try simp only [Act.put]
                  try simp only [List.setIfInBounds_toArray]
                  try simp only [List.set_cons_succ, List.set_cons_zero]
                  refine wpAnyH_take (i := 4) (oi := ⟨some 86, _, _, _, _, _⟩) (v := ?_) rfl (by kernel_rfl) (by kernel_rfl) (by kernel_rfl) (fun _ _ _ h => h) (Or.inl ⟨by rfl, ?_⟩) (by assumption) ?_; rotate_left; focus (intro w hSw; (try dsimp only at hSw); first | (go_simp; done) | (go_simp; with_reducible rfl))
                  try simp only [Act.put]
                  try simp only [List.setIfInBounds_toArray]
                  try simp only [List.set_cons_succ, List.set_cons_zero]
                  refine wpAnyH_take (i := 5) (oi := ⟨some 87, _, _, _, _, _⟩) (v := ?_) rfl (by kernel_rfl) (by kernel_rfl) (by kernel_rfl) (fun _ _ _ h => h) (Or.inl ⟨by rfl, ?_⟩) (by assumption) ?_; rotate_left; focus (intro w hSw; (try dsimp only at hSw); first | (go_simp; done) | (go_simp; with_reducible rfl))
                  try simp only [Act.put]
                  try simp only [List.setIfInBounds_toArray]
                  try simp only [List.set_cons_succ, List.set_cons_zero]
                  refine wpAnyH_take (i := 6) (oi := ⟨some 88, _, _, _, _, _⟩) (v := ?_) rfl (by kernel_rfl) (by kernel_rfl) (by kernel_rfl) (fun _ _ _ h => h) (Or.inl ⟨by rfl, ?_⟩) (by assumption) ?_; rotate_left; focus (intro w hSw; (try dsimp only at hSw); first | (go_simp; done) | (go_simp; with_reducible rfl))
                  try simp only [Act.put]
                  try simp only [List.setIfInBounds_toArray]
                  try simp only [List.set_cons_succ, List.set_cons_zero]
                  refine wpAnyH_ready (rs := [1, 7]) (by kernel_rfl) (by simp) ?_
                  refine AllReadyH.cons (i := 1) (o := ⟨some 83, _, _, _, _, _⟩) rfl (fun K hK => ?_) ?_
                  · go_simp
                    refine hK.out _ _ ?_ (fun hHeld => ?_)
                    · trivial
                    try simp only [Act.put]
                    try simp only [List.setIfInBounds_toArray]
                    try simp only [List.set_cons_succ, List.set_cons_zero]
                    refine wpAnyH_ready (rs := [7]) (by kernel_rfl) (by simp) ?_
                    refine AllReadyH.cons (i := 7) (o := ⟨some 89, _, _, _, _, _⟩) rfl (fun K hK => ?_) ?_
                    · go_simp
                      refine hK.out _ _ ?_ (fun hHeld => ?_)
                      · trivial
                      try simp only [Act.put]
                      try simp only [List.setIfInBounds_toArray]
                      try simp only [List.set_cons_succ, List.set_cons_zero]
                      refine wpAnyH_ready (rs := [8]) (by kernel_rfl) (by simp) ?_
                      refine AllReadyH.cons (i := 8) (o := ⟨some 90, _, _, _, _, _⟩) rfl (fun K hK => ?_) ?_
                      · go_simp
                        refine Hleast.out.mono ?_
                        rintro e w5 ⟨v, rfl, hb5, lo, hlong, a5, c5, rfl, hown5, -⟩
                        replace hb5 : Below wr.heap.size wr w5 := (Below.refl wr.heap.size wr).drew.trans (show Below wr.heap.size wr.drew w5 from hb5)
                        obtain rfl := (Hplan.out.step m).unique hlong
                        have hl5 := Hplan.out.len (m + 1)
                        rw [hl5] at hown5 ⊢
                        have Hb5 := Lib.hid (hb.out.trans (hb5.mono hb.out.size))
                        have HownA5 := Lib.hid (hownA.out.ext hb5)
                        have Hall5 := Lib.hid (hall.out.ext hb5)
                        have HG5 := Lib.hid (hG.out.ext hb5)
                        have Hown5 := Lib.hid (hown5.mono (base' := w.heap.size + 1) (by have := hG.out.lt; show w.heap.size + 1 ≤ wr.heap.size; omega))
                        have hB5 : w.heap.size + 1 ≤ w5.heap.size := by have h1 := hG.out.lt; have h2 : wr.heap.size ≤ w5.heap.size := hb5.size; omega
                        clear hlong hl5 hb5 hown5
                        refine hK.out _ _ ?_ (fun hHeld => ?_)
                        · trivial
                        try simp only [Act.put]
                        try simp only [List.setIfInBounds_toArray]
                        try simp only [List.set_cons_succ, List.set_cons_zero]
                        refine wpAnyH_ready (rs := [9]) (by kernel_rfl) (by simp) ?_
                        refine AllReadyH.cons (i := 9) (o := ⟨some 91, _, _, _, _, _⟩) rfl (fun K hK => ?_) ?_
                        · go_simp
                          refine hK.out _ _ ?_ (fun hHeld => ?_)
                          · trivial
                          try simp only [Act.put]
                          try simp only [List.setIfInBounds_toArray]
                          try simp only [List.set_cons_succ, List.set_cons_zero]
                          refine wpAnyH_ready (rs := [10]) (by kernel_rfl) (by simp) ?_
                          refine AllReadyH.cons (i := 10) (o := ⟨some 92, _, _, _, _, _⟩) rfl (fun K hK => ?_) ?_
                          · refine step_append_Own rfl (.tmp 82) (.tmp 91) 56 rfl (w.heap.size + 1) 28 _ 1 24 Try.underlying56 Try.infoIntsRow rfl (by decide) (some ⟨bA, oA, none⟩) (m + 1) cA vals (by simp [go_sem]) (by exact HownA5.out.alloc _) _ 1 1 [.slice a5 locs.length c5] (by simp [go_sem]; rfl) (by exact Row.new1 (by simp) rfl rfl) (by simp [Value.oneCell']) (by unfold maxLen; omega) (by omega) (by simp; omega) ?_
                            intro aA' cA' w6 hown6 hg6 hbk6
                            have Hall6 := Lib.hid (((Hall5.out.snoc Hown5.out).ext (below_a1 _ _)).grown (HownA5.out.alloc _) (by decide) hg6)
                            have HG6 := Lib.hid ((HG5.out.alloc _).grown hg6 (HownA5.out.apart (by omega)))
                            have Hb6 := Lib.hid ((Hb5.out.alloc Hb5.out.size _).grown hg6 (by simp; have := Hb5.out.size; omega) (fun j hj => by have := HownA5.out.rowBase (Nat.le_refl _) j hj; omega))
                            have Hown6 := Lib.hid hown6
                            clear hown6 hg6 hbk6
                            refine hK.out _ _ ?_ (fun hHeld => ?_)
                            · trivial
                            try simp only [Act.put]
                            try simp only [List.setIfInBounds_toArray]
                            try simp only [List.set_cons_succ, List.set_cons_zero]
                            refine wpAnyH_take (i := 11) (oi := ⟨some 13, _, _, _, _, _⟩) (v := ?_) rfl (by kernel_rfl) (by kernel_rfl) (by kernel_rfl) (fun _ _ _ h => h) (Or.inl ⟨by rfl, ?_⟩) (by assumption) ?_; rotate_left; focus (intro w hSw; (try dsimp only at hSw); first | (go_simp; done) | (go_simp; with_reducible rfl))
                            try simp only [Act.put]
                            try simp only [List.setIfInBounds_toArray]
                            try simp only [List.set_cons_succ, List.set_cons_zero]
                            refine wpAnyH_done (by kernel_rfl) ?_ _
                            go_wp2
                            go_roundg (N - (m + 1))
                            case measure => omega
                            case rel => exact ⟨m + 1, aA', cA', _, by omega, rfl, rfl, Hown6, Hall6, Hb6, HG6⟩
                          exact AllReadyH.nil
                        exact AllReadyH.nil
                      exact AllReadyH.nil
                    exact AllReadyH.nil
                  refine AllReadyH.cons (i := 7) (o := ⟨some 89, _, _, _, _, _⟩) rfl (fun K hK => ?_) ?_
                  · go_simp
                    refine hK.out _ _ ?_ (fun hHeld => ?_)
                    · trivial
                    try simp only [Act.put]
                    try simp only [List.setIfInBounds_toArray]
                    try simp only [List.set_cons_succ, List.set_cons_zero]
                    refine wpAnyH_ready (rs := [1]) (by kernel_rfl) (by simp) ?_
                    refine AllReadyH.cons (i := 1) (o := ⟨some 83, _, _, _, _, _⟩) rfl (fun K hK => ?_) ?_
                    · go_simp
                      refine hK.out _ _ ?_ (fun hHeld => ?_)
                      · trivial
                      try simp only [Act.put]
                      try simp only [List.setIfInBounds_toArray]
                      try simp only [List.set_cons_succ, List.set_cons_zero]
                      refine wpAnyH_ready (rs := [8]) (by kernel_rfl) (by simp) ?_
                      refine AllReadyH.cons (i := 8) (o := ⟨some 90, _, _, _, _, _⟩) rfl (fun K hK => ?_) ?_
                      · go_simp
                        refine Hleast.out.mono ?_
                        rintro e w5 ⟨v, rfl, hb5, lo, hlong, a5, c5, rfl, hown5, -⟩
                        replace hb5 : Below wr.heap.size wr w5 := (Below.refl wr.heap.size wr).drew.trans (show Below wr.heap.size wr.drew w5 from hb5)
                        obtain rfl := (Hplan.out.step m).unique hlong
                        have hl5 := Hplan.out.len (m + 1)
                        rw [hl5] at hown5 ⊢
                        have Hb5 := Lib.hid (hb.out.trans (hb5.mono hb.out.size))
                        have HownA5 := Lib.hid (hownA.out.ext hb5)
                        have Hall5 := Lib.hid (hall.out.ext hb5)
                        have HG5 := Lib.hid (hG.out.ext hb5)
                        have Hown5 := Lib.hid (hown5.mono (base' := w.heap.size + 1) (by have := hG.out.lt; show w.heap.size + 1 ≤ wr.heap.size; omega))
                        have hB5 : w.heap.size + 1 ≤ w5.heap.size := by have h1 := hG.out.lt; have h2 : wr.heap.size ≤ w5.heap.size := hb5.size; omega
                        clear hlong hl5 hb5 hown5
                        refine hK.out _ _ ?_ (fun hHeld => ?_)
                        · trivial
                        try simp only [Act.put]
                        try simp only [List.setIfInBounds_toArray]
                        try simp only [List.set_cons_succ, List.set_cons_zero]
                        refine wpAnyH_ready (rs := [9]) (by kernel_rfl) (by simp) ?_
                        refine AllReadyH.cons (i := 9) (o := ⟨some 91, _, _, _, _, _⟩) rfl (fun K hK => ?_) ?_
                        · go_simp
                          refine hK.out _ _ ?_ (fun hHeld => ?_)
                          · trivial
                          try simp only [Act.put]
                          try simp only [List.setIfInBounds_toArray]
                          try simp only [List.set_cons_succ, List.set_cons_zero]
                          refine wpAnyH_ready (rs := [10]) (by kernel_rfl) (by simp) ?_
                          refine AllReadyH.cons (i := 10) (o := ⟨some 92, _, _, _, _, _⟩) rfl (fun K hK => ?_) ?_
                          · refine step_append_Own rfl (.tmp 82) (.tmp 91) 56 rfl (w.heap.size + 1) 28 _ 1 24 Try.underlying56 Try.infoIntsRow rfl (by decide) (some ⟨bA, oA, none⟩) (m + 1) cA vals (by simp [go_sem]) (by exact HownA5.out.alloc _) _ 1 1 [.slice a5 locs.length c5] (by simp [go_sem]; rfl) (by exact Row.new1 (by simp) rfl rfl) (by simp [Value.oneCell']) (by unfold maxLen; omega) (by omega) (by simp; omega) ?_
                            intro aA' cA' w6 hown6 hg6 hbk6
                            have Hall6 := Lib.hid (((Hall5.out.snoc Hown5.out).ext (below_a1 _ _)).grown (HownA5.out.alloc _) (by decide) hg6)
                            have HG6 := Lib.hid ((HG5.out.alloc _).grown hg6 (HownA5.out.apart (by omega)))
                            have Hb6 := Lib.hid ((Hb5.out.alloc Hb5.out.size _).grown hg6 (by simp; have := Hb5.out.size; omega) (fun j hj => by have := HownA5.out.rowBase (Nat.le_refl _) j hj; omega))
                            have Hown6 := Lib.hid hown6
                            clear hown6 hg6 hbk6
                            refine hK.out _ _ ?_ (fun hHeld => ?_)
                            · trivial
                            try simp only [Act.put]
                            try simp only [List.setIfInBounds_toArray]
                            try simp only [List.set_cons_succ, List.set_cons_zero]
                            refine wpAnyH_take (i := 11) (oi := ⟨some 13, _, _, _, _, _⟩) (v := ?_) rfl (by kernel_rfl) (by kernel_rfl) (by kernel_rfl) (fun _ _ _ h => h) (Or.inl ⟨by rfl, ?_⟩) (by assumption) ?_; rotate_left; focus (intro w hSw; (try dsimp only at hSw); first | (go_simp; done) | (go_simp; with_reducible rfl))
                            try simp only [Act.put]
                            try simp only [List.setIfInBounds_toArray]
                            try simp only [List.set_cons_succ, List.set_cons_zero]
                            refine wpAnyH_done (by kernel_rfl) ?_ _
                            go_wp2
                            go_roundg (N - (m + 1))
                            case measure => omega
                            case rel => exact ⟨m + 1, aA', cA', _, by omega, rfl, rfl, Hown6, Hall6, Hb6, HG6⟩
                          exact AllReadyH.nil
                        exact AllReadyH.nil
                      exact AllReadyH.nil
                    exact AllReadyH.nil
                  exact AllReadyH.nil
                · have fne : (lt0 != -1) = true := by simpa using hne
                  have hm2 : ¬ (m : Int) + 1 < 2 := by omega
                  clear hne
                  go_wp2_with fail
                  refine wp_region_held_drew (S := fun _ => True) (by kernel_rfl) ?_ (fun hHeld => ?_)
                  · trivial
                  refine wpAnyH_take (i := 0) (oi := ⟨some 82, _, _, _, _, _⟩) (v := ?_) rfl (by kernel_rfl) (by kernel_rfl) (by kernel_rfl) (fun _ _ _ h => h) (Or.inl ⟨by rfl, ?_⟩) (by assumption) ?_; rotate_left; focus (intro w hSw; (try dsimp only at hSw); first | (go_simp; done) | (go_simp; with_reducible rfl))
                  try simp only [Act.put]
                  try simp only [List.setIfInBounds_toArray]
                  try simp only [List.set_cons_succ, List.set_cons_zero]
                  refine wpAnyH_take (i := 2) (oi := ⟨some 84, _, _, _, _, _⟩) (v := ?_) rfl (by kernel_rfl) (by kernel_rfl) (by kernel_rfl) (fun _ _ _ h => h) (Or.inl ⟨by rfl, ?_⟩) (by assumption) ?_; rotate_left; focus (intro w hSw; (try dsimp only at hSw); first | (go_simp; done) | (go_simp; with_reducible rfl))
                  try simp only [Act.put]
                  try simp only [List.setIfInBounds_toArray]
                  try simp only [List.set_cons_succ, List.set_cons_zero]
                  refine wpAnyH_take (i := 3) (oi := ⟨some 85, _, _, _, _, _⟩) (v := ?_) rfl (by kernel_rfl) (by kernel_rfl) (by kernel_rfl) (fun _ _ _ h => h) (Or.inl ⟨by rfl, ?_⟩) (by assumption) ?_; rotate_left; focus (intro w hSw; (try dsimp only at hSw); first | (go_simp; done) | (go_simp; with_reducible rfl))
                  try simp only [Act.put]
                  try simp only [List.setIfInBounds_toArray]
                  try simp only [List.set_cons_succ, List.set_cons_zero]
                  refine wpAnyH_take (i := 4) (oi := ⟨some 86, _, _, _, _, _⟩) (v := ?_) rfl (by kernel_rfl) (by kernel_rfl) (by kernel_rfl) (fun _ _ _ h => h) (Or.inl ⟨by rfl, ?_⟩) (by assumption) ?_; rotate_left; focus (intro w hSw; (try dsimp only at hSw); first | (go_simp; done) | (go_simp; with_reducible rfl))
                  try simp only [Act.put]
                  try simp only [List.setIfInBounds_toArray]
                  try simp only [List.set_cons_succ, List.set_cons_zero]
                  refine wpAnyH_take (i := 5) (oi := ⟨some 87, _, _, _, _, _⟩) (v := ?_) rfl (by kernel_rfl) (by kernel_rfl) (by kernel_rfl) (fun _ _ _ h => h) (Or.inl ⟨by rfl, ?_⟩) (by assumption) ?_; rotate_left; focus (intro w hSw; (try dsimp only at hSw); first | (go_simp; done) | (go_simp; with_reducible rfl))
                  try simp only [Act.put]
                  try simp only [List.setIfInBounds_toArray]
                  try simp only [List.set_cons_succ, List.set_cons_zero]
                  refine wpAnyH_take (i := 6) (oi := ⟨some 88, _, _, _, _, _⟩) (v := ?_) rfl (by kernel_rfl) (by kernel_rfl) (by kernel_rfl) (fun _ _ _ h => h) (Or.inl ⟨by rfl, ?_⟩) (by assumption) ?_; rotate_left; focus (intro w hSw; (try dsimp only at hSw); first | (go_simp; done) | (go_simp; with_reducible rfl))
                  try simp only [Act.put]
                  try simp only [List.setIfInBounds_toArray]
                  try simp only [List.set_cons_succ, List.set_cons_zero]
                  refine wpAnyH_ready (rs := [1, 7]) (by kernel_rfl) (by simp) ?_
                  refine AllReadyH.cons (i := 1) (o := ⟨some 83, _, _, _, _, _⟩) rfl (fun K hK => ?_) ?_
                  · go_simp
                    refine hK.out _ _ ?_ (fun hHeld => ?_)
                    · trivial
                    try simp only [Act.put]
                    try simp only [List.setIfInBounds_toArray]
                    try simp only [List.set_cons_succ, List.set_cons_zero]
                    refine wpAnyH_ready (rs := [7]) (by kernel_rfl) (by simp) ?_
                    refine AllReadyH.cons (i := 7) (o := ⟨some 89, _, _, _, _, _⟩) rfl (fun K hK => ?_) ?_
                    · go_simp
                      refine hK.out _ _ ?_ (fun hHeld => ?_)
                      · trivial
                      try simp only [Act.put]
                      try simp only [List.setIfInBounds_toArray]
                      try simp only [List.set_cons_succ, List.set_cons_zero]
                      refine wpAnyH_ready (rs := [8]) (by kernel_rfl) (by simp) ?_
                      refine AllReadyH.cons (i := 8) (o := ⟨some 90, _, _, _, _, _⟩) rfl (fun K hK => ?_) ?_
                      · go_simp
                        refine Hleast.out.mono ?_
                        rintro e w5 ⟨v, rfl, hb5, lo, hlong, a5, c5, rfl, hown5, -⟩
                        replace hb5 : Below wr.heap.size wr w5 := (Below.refl wr.heap.size wr).drew.trans (show Below wr.heap.size wr.drew w5 from hb5)
                        obtain rfl := (Hplan.out.step m).unique hlong
                        have hl5 := Hplan.out.len (m + 1)
                        rw [hl5] at hown5 ⊢
                        have Hb5 := Lib.hid (hb.out.trans (hb5.mono hb.out.size))
                        have HownA5 := Lib.hid (hownA.out.ext hb5)
                        have Hall5 := Lib.hid (hall.out.ext hb5)
                        have HG5 := Lib.hid (hG.out.ext hb5)
                        have Hown5 := Lib.hid (hown5.mono (base' := w.heap.size + 1) (by have := hG.out.lt; show w.heap.size + 1 ≤ wr.heap.size; omega))
                        have hB5 : w.heap.size + 1 ≤ w5.heap.size := by have h1 := hG.out.lt; have h2 : wr.heap.size ≤ w5.heap.size := hb5.size; omega
                        clear hlong hl5 hb5 hown5
                        refine hK.out _ _ ?_ (fun hHeld => ?_)
                        · trivial
                        try simp only [Act.put]
                        try simp only [List.setIfInBounds_toArray]
                        try simp only [List.set_cons_succ, List.set_cons_zero]
                        refine wpAnyH_ready (rs := [9]) (by kernel_rfl) (by simp) ?_
                        refine AllReadyH.cons (i := 9) (o := ⟨some 91, _, _, _, _, _⟩) rfl (fun K hK => ?_) ?_
                        · go_simp
                          refine hK.out _ _ ?_ (fun hHeld => ?_)
                          · trivial
                          try simp only [Act.put]
                          try simp only [List.setIfInBounds_toArray]
                          try simp only [List.set_cons_succ, List.set_cons_zero]
                          refine wpAnyH_ready (rs := [10]) (by kernel_rfl) (by simp) ?_
                          refine AllReadyH.cons (i := 10) (o := ⟨some 92, _, _, _, _, _⟩) rfl (fun K hK => ?_) ?_
                          · refine step_append_Own rfl (.tmp 82) (.tmp 91) 56 rfl (w.heap.size + 1) 28 _ 1 24 Try.underlying56 Try.infoIntsRow rfl (by decide) (some ⟨bA, oA, none⟩) (m + 1) cA vals (by simp [go_sem]) (by exact HownA5.out.alloc _) _ 1 1 [.slice a5 locs.length c5] (by simp [go_sem]; rfl) (by exact Row.new1 (by simp) rfl rfl) (by simp [Value.oneCell']) (by unfold maxLen; omega) (by omega) (by simp; omega) ?_
                            intro aA' cA' w6 hown6 hg6 hbk6
                            have Hall6 := Lib.hid (((Hall5.out.snoc Hown5.out).ext (below_a1 _ _)).grown (HownA5.out.alloc _) (by decide) hg6)
                            have HG6 := Lib.hid ((HG5.out.alloc _).grown hg6 (HownA5.out.apart (by omega)))
                            have Hb6 := Lib.hid ((Hb5.out.alloc Hb5.out.size _).grown hg6 (by simp; have := Hb5.out.size; omega) (fun j hj => by have := HownA5.out.rowBase (Nat.le_refl _) j hj; omega))
                            have Hown6 := Lib.hid hown6
                            clear hown6 hg6 hbk6
                            refine hK.out _ _ ?_ (fun hHeld => ?_)
                            · trivial
                            try simp only [Act.put]
                            try simp only [List.setIfInBounds_toArray]
                            try simp only [List.set_cons_succ, List.set_cons_zero]
                            refine wpAnyH_take (i := 11) (oi := ⟨some 13, _, _, _, _, _⟩) (v := ?_) rfl (by kernel_rfl) (by kernel_rfl) (by kernel_rfl) (fun _ _ _ h => h) (Or.inl ⟨by rfl, ?_⟩) (by assumption) ?_; rotate_left; focus (intro w hSw; (try dsimp only at hSw); first | (go_simp; done) | (go_simp; with_reducible rfl))
                            try simp only [Act.put]
                            try simp only [List.setIfInBounds_toArray]
                            try simp only [List.set_cons_succ, List.set_cons_zero]
                            refine wpAnyH_done (by kernel_rfl) ?_ _
                            go_wp2
                            go_roundg (N - (m + 1))
                            case measure => omega
                            case rel => exact ⟨m + 1, aA', cA', _, by omega, rfl, rfl, Hown6, Hall6, Hb6, HG6⟩
                          exact AllReadyH.nil
                        exact AllReadyH.nil
                      exact AllReadyH.nil
                    exact AllReadyH.nil
                  refine AllReadyH.cons (i := 7) (o := ⟨some 89, _, _, _, _, _⟩) rfl (fun K hK => ?_) ?_
                  · go_simp
                    refine hK.out _ _ ?_ (fun hHeld => ?_)
                    · trivial
                    try simp only [Act.put]
                    try simp only [List.setIfInBounds_toArray]
                    try simp only [List.set_cons_succ, List.set_cons_zero]
                    refine wpAnyH_ready (rs := [1]) (by kernel_rfl) (by simp) ?_
                    refine AllReadyH.cons (i := 1) (o := ⟨some 83, _, _, _, _, _⟩) rfl (fun K hK => ?_) ?_
                    · go_simp
                      refine hK.out _ _ ?_ (fun hHeld => ?_)
                      · trivial
                      try simp only [Act.put]
                      try simp only [List.setIfInBounds_toArray]
                      try simp only [List.set_cons_succ, List.set_cons_zero]
                      refine wpAnyH_ready (rs := [8]) (by kernel_rfl) (by simp) ?_
                      refine AllReadyH.cons (i := 8) (o := ⟨some 90, _, _, _, _, _⟩) rfl (fun K hK => ?_) ?_
                      · go_simp
                        refine Hleast.out.mono ?_
                        rintro e w5 ⟨v, rfl, hb5, lo, hlong, a5, c5, rfl, hown5, -⟩
                        replace hb5 : Below wr.heap.size wr w5 := (Below.refl wr.heap.size wr).drew.trans (show Below wr.heap.size wr.drew w5 from hb5)
                        obtain rfl := (Hplan.out.step m).unique hlong
                        have hl5 := Hplan.out.len (m + 1)
                        rw [hl5] at hown5 ⊢
                        have Hb5 := Lib.hid (hb.out.trans (hb5.mono hb.out.size))
                        have HownA5 := Lib.hid (hownA.out.ext hb5)
                        have Hall5 := Lib.hid (hall.out.ext hb5)
                        have HG5 := Lib.hid (hG.out.ext hb5)
                        have Hown5 := Lib.hid (hown5.mono (base' := w.heap.size + 1) (by have := hG.out.lt; show w.heap.size + 1 ≤ wr.heap.size; omega))
                        have hB5 : w.heap.size + 1 ≤ w5.heap.size := by have h1 := hG.out.lt; have h2 : wr.heap.size ≤ w5.heap.size := hb5.size; omega
                        clear hlong hl5 hb5 hown5
                        refine hK.out _ _ ?_ (fun hHeld => ?_)
                        · trivial
                        try simp only [Act.put]
                        try simp only [List.setIfInBounds_toArray]
                        try simp only [List.set_cons_succ, List.set_cons_zero]
                        refine wpAnyH_ready (rs := [9]) (by kernel_rfl) (by simp) ?_
                        refine AllReadyH.cons (i := 9) (o := ⟨some 91, _, _, _, _, _⟩) rfl (fun K hK => ?_) ?_
                        · go_simp
                          refine hK.out _ _ ?_ (fun hHeld => ?_)
                          · trivial
                          try simp only [Act.put]
                          try simp only [List.setIfInBounds_toArray]
                          try simp only [List.set_cons_succ, List.set_cons_zero]
                          refine wpAnyH_ready (rs := [10]) (by kernel_rfl) (by simp) ?_
                          refine AllReadyH.cons (i := 10) (o := ⟨some 92, _, _, _, _, _⟩) rfl (fun K hK => ?_) ?_
                          · refine step_append_Own rfl (.tmp 82) (.tmp 91) 56 rfl (w.heap.size + 1) 28 _ 1 24 Try.underlying56 Try.infoIntsRow rfl (by decide) (some ⟨bA, oA, none⟩) (m + 1) cA vals (by simp [go_sem]) (by exact HownA5.out.alloc _) _ 1 1 [.slice a5 locs.length c5] (by simp [go_sem]; rfl) (by exact Row.new1 (by simp) rfl rfl) (by simp [Value.oneCell']) (by unfold maxLen; omega) (by omega) (by simp; omega) ?_
                            intro aA' cA' w6 hown6 hg6 hbk6
                            have Hall6 := Lib.hid (((Hall5.out.snoc Hown5.out).ext (below_a1 _ _)).grown (HownA5.out.alloc _) (by decide) hg6)
                            have HG6 := Lib.hid ((HG5.out.alloc _).grown hg6 (HownA5.out.apart (by omega)))
                            have Hb6 := Lib.hid ((Hb5.out.alloc Hb5.out.size _).grown hg6 (by simp; have := Hb5.out.size; omega) (fun j hj => by have := HownA5.out.rowBase (Nat.le_refl _) j hj; omega))
                            have Hown6 := Lib.hid hown6
                            clear hown6 hg6 hbk6
                            refine hK.out _ _ ?_ (fun hHeld => ?_)
                            · trivial
                            try simp only [Act.put]
                            try simp only [List.setIfInBounds_toArray]
                            try simp only [List.set_cons_succ, List.set_cons_zero]
                            refine wpAnyH_take (i := 11) (oi := ⟨some 13, _, _, _, _, _⟩) (v := ?_) rfl (by kernel_rfl) (by kernel_rfl) (by kernel_rfl) (fun _ _ _ h => h) (Or.inl ⟨by rfl, ?_⟩) (by assumption) ?_; rotate_left; focus (intro w hSw; (try dsimp only at hSw); first | (go_simp; done) | (go_simp; with_reducible rfl))
                            try simp only [Act.put]
                            try simp only [List.setIfInBounds_toArray]
                            try simp only [List.set_cons_succ, List.set_cons_zero]
                            refine wpAnyH_done (by kernel_rfl) ?_ _
                            go_wp2
                            go_roundg (N - (m + 1))
                            case measure => omega
                            case rel => exact ⟨m + 1, aA', cA', _, by omega, rfl, rfl, Hown6, Hall6, Hb6, HG6⟩
                          exact AllReadyH.nil
                        exact AllReadyH.nil
                      exact AllReadyH.nil
                    exact AllReadyH.nil
                  exact AllReadyH.nil
      · have fin : decide ((t : Int) ∈ lX) = false := by simpa using fun h => hin (HmX.out.1 h)
        have Hin := Lib.hid hin
        clear hin
        go_wp2_with fail
        refine (has_any aX cX lX t _ HrX.out hlX).mono ?_
        rintro e w' ⟨rfl, rfl⟩
        go_wp2
        go_ret2
        exact ⟨_, rfl, Hb2.out, .inr ⟨HR.out, t, rfl, htn, bs, HBs.out, .inl ⟨Hin.out, rfl⟩⟩⟩
    · go_wp2
      all_goals (go_ret2; exact ⟨_, rfl, Hb1.out, .inl ⟨fun h => hto h.2, rfl⟩⟩)
end Go.Proofs.Ytadekfjgdbngdaa
