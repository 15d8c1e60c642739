/- The program's Way, walked. -/
import Derived.Test.YtadekfjgdbngdaaRefWay
import Derived.Test.YtadekfjgdbngdaaLonger
import Derived.Test.YtadekfjgdbngdaaRSt
import Derived.Test.YtadekfjgdbngdaaQuietR
import Derived.RangeFuncNested
import Derived.RangeFuncBound
import Derived.RangeFuncCalls
import Derived.RangeFuncLeaves
import Derived.RangeFuncBox
import Derived.Shelf.Abstract
import Derived.Shelf.RegionOpen
import Derived.OwnWalkIn
import Derived.WalkMore
import Derived.TacticsInMore
import Derived.LoopNIn
import Derived.LoopIn
namespace Go.Proofs.Ytadekfjgdbngdaa
open Go Go.RowKit Go.Shelf
attribute [local go_sem] Oper.semAt_some

theorem contains_any (a : Option Addr) (c : Nat) (l : List Int) (x : Int) (w : World) (hr : Row w 1 a l.length (l.map (Value.int .i64))) (hl : l.length ≤ 1099511627776) :
    Calls Try.prog 18 #[.slice a l.length c, .int .i64 x] w fun e w' => e = .returned (.bool (decide (x ∈ l))) ∧ w' = w := by
  rcases Nat.eq_zero_or_pos l.length with h0 | h0
  · have hl0 : l = [] := List.eq_nil_of_length_eq_zero h0
    subst hl0
    exact (Try.slices_Contains_int_empty a c x w).mono fun _ _ h => ⟨by rw [h.1]; simp, h.2⟩
  · obtain ⟨b, off, rfl, hc⟩ := hr.2 (by omega)
    refine (Try.slices_Contains_int b off l.length c l x w (Nat.le_refl _) (by omega) (fun j hj => ?_)).mono fun _ _ h => ⟨by rw [h.1, List.take_length, List.contains_eq_mem], h.2⟩
    rw [hc j (by omega), List.getElem?_map, List.getElem?_eq_getElem hj]
    simp [List.getElem?_eq_getElem hj]

def lookM (lp : Nat → Int) (bs : List Bool) (t k m : Nat) : List Int := ((List.range k).map fun i => if Sink lp bs t i then 0 else -2) ++ List.replicate m (-2)
theorem lookM_get (lp : Nat → Int) (bs : List Bool) (t k m : Nat) : (lookM lp bs t k (m + 1))[k]? = some (-2) := by
  unfold lookM
  rw [List.getElem?_append_right (by simp), List.length_map, List.length_range, Nat.sub_self]; rfl
theorem lookM_set (lp : Nat → Int) (bs : List Bool) (t k m : Nat) : (lookM lp bs t k (m + 1)).set k (if Sink lp bs t k then 0 else -2) = lookM lp bs t (k + 1) m := by
  unfold lookM
  rw [List.set_append_right _ _ (by simp), List.length_map, List.length_range, Nat.sub_self, List.replicate_succ, List.set_cons_zero, List.range_succ, List.map_append, List.append_assoc]
  rfl
theorem lookM_keep (lp : Nat → Int) (bs : List Bool) (t k m : Nat) (h : ¬ Sink lp bs t k) : lookM lp bs t k (m + 1) = lookM lp bs t (k + 1) m := by
  rw [← lookM_set, if_neg h]
  apply List.ext_getElem?
  intro i
  rw [List.getElem?_set]
  by_cases hki : k = i
  · rw [if_pos hki, ← hki, lookM_get, if_pos (get_lt (lookM_get lp bs t k m))]
  · rw [if_neg hki]

set_option maxRecDepth 20000 in
set_option maxHeartbeats 8000000 in
theorem way_any (aL aE : Option Addr) (cL cE : Nat) (p at_ : Int) (locs : List LocD) (edges : List EdgeD) (D : Nat) (C : Nat → List Int) (w : World) (hL : Row w 5 aL locs.length (locs.flatMap LocD.cells)) (hE : Row w 3 aE edges.length (edges.flatMap EdgeD.cells))
    (hf : Fit locs edges D) (hC : RightG locs edges p → ComeAll edges locs.length C) :
    Calls Try.prog 7 #[.agg #[.slice aL locs.length cL, .slice aE edges.length cE, .int .i64 p], .int .i64 at_] w (Ret w (WayR w.heap.size locs edges p at_ C)) := by
  have hl := hf.l
  have hle := hf.e
  have HL := Lib.hid hL
  have HE := Lib.hid hE
  have HF := Lib.hid hf
  have HC := Lib.hid hC
  clear hL hE hf hC
  refine (callsIn_wide (n := 9)).1 (callsIn_of_wp_marks Try.func7 rfl trivial ?_ rfl)
  simp only [Try.ntmps7, List.size_toArray, List.length_cons, List.length_nil, Nat.reduceAdd, Nat.reduceSub, Array.replicate_succ, Array.replicate_zero, List.push_toArray, List.append_toArray, List.nil_append, List.cons_append]
  refine wpIn_wide.2 ?_
  go_wp2_with fail
  go_step3
  go_wp2_with fail
  refine (walkEscs_any aL aE cL cE p locs edges D C _ (HL.out.ext (below_a1 _ _)) (HE.out.ext (below_a1 _ _)) HF.out HC.out).mono ?_
  rintro e w1 ⟨v, rfl, hb1, hr⟩
  have k0 : Blk w1 w.heap.size #[.slice aL locs.length cL, .slice aE edges.length cE, .int .i64 p] 35 := (Blk.new rfl).ext hb1
  have Hb1 := Lib.hid ((below_a1 _ _).trans (hb1.mono (by simp)))
  have K0 := Lib.hid k0
  have c0 := k0.cell 0
  have c1 := k0.cell 1
  have c2 := k0.cell 2
  simp only [List.getElem?_toArray, List.getElem?_cons_zero, List.getElem?_cons_succ] at c0 c1 c2
  clear k0 hb1
  rcases hr with ⟨hno, rfl⟩ | ⟨hR, bs, x, hbs, rfl, aX, cX, rfl, hownX⟩
  · have Hno := Lib.hid hno
    clear hno
    go_wp2
    rw [Exit.noGoto_ret]
    exact ⟨_, results_tmp2 rfl _ _ _, _, rfl, Hb1.out, .inl ⟨fun h => Hno.out h.1, rfl⟩⟩
  · have HR := Lib.hid hR
    have HBs := Lib.hid hbs
    have hlX : (trues bs bs.length).length ≤ 1099511627776 := by have h1 := trues_len bs bs.length; have h2 := hbs.1; omega
    have HmX : Hid (∀ i : Nat, (i : Int) ∈ trues bs bs.length ↔ bs[i]? = some true) := fun i => by
      rw [mem_trues]
      constructor
      · rintro ⟨j, hj, _, h2⟩
        obtain rfl : i = j := by omega
        exact h2
      · intro h; exact ⟨i, rfl, get_lt h, h⟩
    have HrX := Lib.hid hownX.row
    generalize trues bs bs.length = lX at *
    clear hR hbs hownX
    by_cases hto : 0 ≤ at_ ∧ at_ < locs.length
    · obtain ⟨ht0, ht1⟩ := hto
      obtain ⟨t, rfl⟩ := Int.eq_ofNat_of_zero_le ht0
      have f1 : decide ((t : Int) < 0) = false := by simp
      have f2 : decide ((locs.length : Int) ≤ (t : Int)) = false := by simp; omega
      have htn : t < locs.length := by omega
      by_cases hin : bs[t]? = some true
      · have fin : decide ((t : Int) ∈ lX) = true := by simpa using (HmX.out t).2 hin
        have Hin := Lib.hid hin
        clear hin
        go_wp2_with fail
        refine (contains_any aX cX lX t _ HrX.out hlX).mono ?_
        rintro e w' ⟨rfl, rfl⟩
        have hok : ∀ e ∈ edges, EdgeOk locs.length e := fun e he => by obtain ⟨j, hj, rfl⟩ := List.getElem_of_mem he; exact HR.out.edges j _ (List.getElem?_eq_getElem hj)
        have Hok := Lib.hid hok
        clear hok
        go_wp2_with fail
        refine (madeY_any aL aE cL cE p locs edges _ (HE.out.ext Hb1.out) Hok.out hl hle).mono ?_
        rintro e w2 ⟨v, rfl, hb2, gx, F, rfl, hY⟩
        have HY := Lib.hid hY
        have Hb2 := Lib.hid (Hb1.out.trans (hb2.mono Hb1.out.size))
        have k2 := K0.out.ext hb2
        have hk2 := k2.lt
        have c0 := k2.cell 0
        simp only [List.getElem?_toArray, List.getElem?_cons_zero] at c0
        have K2 := Lib.hid k2
        have HX2 := Lib.hid (HrX.out.ext hb2)
        clear hb2 hY k2 HrX
        go_wp2_with fail
        have hn0 : 0 < locs.length := by omega
        refine (repeat_any (some ⟨w2.heap.size + 1, 0, none⟩) 1 (-2) locs.length _ (Row.new1 (by simp) rfl rfl) (by omega)).mono ?_
        rintro e w3 ⟨v, rfl, hb3, a3, c3, rfl, hown3, hg3⟩
        rw [List.length_replicate] at hown3 hg3 ⊢
        obtain ⟨g, rfl⟩ := hg3 hn0
        have hbb := ((Below.refl w2.heap.size w2).alloc (Nat.le_refl _) (.cells #[.pointer (some ⟨gx, 0, none⟩)] 53)).alloc (by simp) (.cells #[.int .i64 (-2)] 3)
        have Hb3 := Lib.hid (hbb.trans (hb3.mono hbb.size))
        have HB8 : Hid (Blk w3 w2.heap.size #[.pointer (some ⟨gx, 0, none⟩)] 53) := Lib.hid (((Blk.new rfl).alloc _).ext hb3)
        have hgb := hown3.base (g := g) rfl
        simp at hgb
        have Hg : Hid (w2.heap.size < g) := by refine Lib.hid ?_; omega
        have Hown3 : Hid (Own w3 (w2.heap.size + 1) 3 1 (some ⟨g, 0, none⟩) locs.length c3 ((lookM (lpOf locs) bs t 0 (locs.length - 0)).map (Value.int .i64))) := by
          refine Lib.hid ?_
          have := hown3.mono (base' := w2.heap.size + 1) (by simp)
          simpa [lookM] using this
        have c0' := below_ext Hb3.out c0
        clear hown3 hg3 hbb hb3 hgb c0
        go_wp2_with fail
        clear c0'
        go_loopw [53] (fun i wr => ∃ k : Nat, k ≤ locs.length ∧ i = .int .i64 k ∧ Hid (Own wr (w2.heap.size + 1) 3 1 (some ⟨g, 0, none⟩) locs.length c3 ((lookM (lpOf locs) bs t k (locs.length - k)).map (Value.int .i64))) ∧ Hid (Below w2.heap.size w2 wr) ∧ Hid (Blk wr w2.heap.size #[.pointer (some ⟨gx, 0, none⟩)] 53)) (fun i _ => locs.length - (intOf i).toNat)
        case atStart => exact ⟨0, Nat.zero_le _, rfl, Hown3, Hb3, HB8⟩
        case round =>
          clear Hown3 Hb3 HB8
          obtain ⟨k, hk, rfl, hown, hb, hB8⟩ := hrel
          by_cases hlt : k < locs.length
          · obtain ⟨x, hx⟩ := get_some hlt
            obtain ⟨y, hy⟩ := get_some htn
            have HLr := HL.out.ext (Hb2.out.trans (hb.out.mono Hb2.out.size))
            obtain ⟨bL, oL, rfl, l0, l1, l2, l3, l4, hbL⟩ := loc_at HLr hx
            obtain ⟨bL', oL', he, -, -, -, -, l5, -⟩ := loc_at HLr hy
            simp only [Option.some.injEq, Addr.mk.injEq, and_true] at he
            obtain ⟨rfl, rfl⟩ := he
            have Hlk := Lib.hid (lpOf_some hx)
            have Hlt' := Lib.hid (lpOf_some hy)
            have c0 := (K2.out.ext hb.out).cell 0
            simp only [List.getElem?_toArray, List.getElem?_cons_zero] at c0
            have hwlt : w.heap.size < wr.heap.size := by have := hb.out.size; omega
            have h0 := hown.out.at0 hlt
            rw [List.getElem?_map, show locs.length - k = (locs.length - (k + 1)) + 1 from by omega, lookM_get] at h0
            simp only [Option.map_some] at h0
            obtain ⟨h1, h2, h3, h4⟩ := h0
            obtain ⟨o, ho⟩ : ∃ o : Obj, o = .cells #[.string x.kind, .string x.name, .int .i64 x.fr, .int .i64 x.to, .int .i64 x.loop] 47 := ⟨_, rfl⟩
            have Hset : Hid (∀ z, Sink (lpOf locs) bs t k → Own (((wr.alloc o).drewN z).setCell ⟨g, k, none⟩ (.int .i64 0)) (w2.heap.size + 1) 3 1 (some ⟨g, 0, none⟩) locs.length c3 ((lookM (lpOf locs) bs t (k + 1) (locs.length - (k + 1))).map (Value.int .i64))) := fun z hs => by
              have h5 := ((hown.out.alloc o).drewN z).set0 hlt (.int .i64 0)
              rw [← List.map_set, show locs.length - k = (locs.length - (k + 1)) + 1 from by omega] at h5
              have e5 := lookM_set (lpOf locs) bs t k (locs.length - (k + 1))
              rw [if_pos hs] at e5
              rw [e5] at h5; exact h5
            have Hkeep : Hid (∀ z, ¬ Sink (lpOf locs) bs t k → Own ((wr.alloc o).drewN z) (w2.heap.size + 1) 3 1 (some ⟨g, 0, none⟩) locs.length c3 ((lookM (lpOf locs) bs t (k + 1) (locs.length - (k + 1))).map (Value.int .i64))) := fun z hs => by
              have h5 := ((hown.out.alloc o).drewN z)
              rw [show locs.length - k = (locs.length - (k + 1)) + 1 from by omega, lookM_keep _ _ _ _ _ hs] at h5; exact h5
            have Hbk := Lib.hid (fun z => below_drewN (hb.out.alloc hb.out.size o) z)
            have Hbs := Lib.hid (fun z => (below_drewN (hb.out.alloc hb.out.size o) z).setCell (p := ⟨g, k, none⟩) (by have := Hg.out; show w2.heap.size ≤ g; omega) (.int .i64 0))
            have HB8k := Lib.hid (fun z => (hB8.out.alloc o).drewN z)
            have HB8s := Lib.hid (fun z => ((hB8.out.alloc o).drewN z).other (p := ⟨g, k, none⟩) (by have := Hg.out; show w2.heap.size ≠ g; omega) (.int .i64 0))
            have HcX : Hid (∀ z, Calls Try.prog 18 #[.slice aX lX.length cX, .int .i64 k] ((wr.alloc o).drewN z) fun e w' => e = .returned (.bool (decide ((k : Int) ∈ lX))) ∧ w' = (wr.alloc o).drewN z) := fun z =>
              contains_any aX cX lX k _ ((HX2.out.ext (hb.out.alloc hb.out.size o)).drew z) hlX
            have Hmk := Lib.hid (HmX.out k)
            subst ho
            have Hs : Hid (Sink (lpOf locs) bs t k ↔ k < 2 ∨ ((k : Int) ∈ lX ∧ k ≠ t) ∨ x.loop < y.loop) := by
              refine Lib.hid ?_; unfold Sink; rw [Hlk.out, Hlt'.out, Hmk.out]
            have hgk : g < wr.heap.size := h4
            have c0' := below_ext (below_a1 wr (.cells #[.string x.kind, .string x.name, .int .i64 x.fr, .int .i64 x.to, .int .i64 x.loop] 47)) c0
            have l5' := below_ext (below_a1 wr (.cells #[.string x.kind, .string x.name, .int .i64 x.fr, .int .i64 x.to, .int .i64 x.loop] 47)) l5
            clear hx hy hown hb hB8 HLr Hmk Hlk Hlt'
            generalize x.loop = lk at *
            generalize y.loop = lt at *
            by_cases q1 : k < 2
            · have q1' : (k : Int) < 2 := by omega
              have Hv : Hid (Sink (lpOf locs) bs t k) := Lib.hid (Hs.out.2 (.inl q1))
              go_wp2_with fail
              go_quiet (fail)
              go_wp2
              go_roundw
              case rel => exact ⟨k + 1, by omega, by go_num, Hset.out _ Hv.out, Hbs.out _, HB8s.out _⟩
              case measure => simp [intOf]; omega
            · have q1' : ¬ (k : Int) < 2 := by omega
              have f1 : decide ((k : Int) < 2) = false := by simpa using q1'
              by_cases q4 : lk < lt
              · have Hv : Hid (Sink (lpOf locs) bs t k) := Lib.hid (Hs.out.2 (.inr (.inr q4)))
                go_wp2_with fail
                go_quiet (fail)
                go_wp2
                go_roundw
                case rel => exact ⟨k + 1, by omega, by go_num, Hset.out _ Hv.out, Hbs.out _, HB8s.out _⟩
                case measure => simp [intOf]; omega
              · by_cases q3 : k = t
                · have Hv : Hid (¬ Sink (lpOf locs) bs t k) := Lib.hid (fun h => by rcases Hs.out.1 h with h | ⟨_, h⟩ | h <;> first | exact q1 h | exact h q3 | exact q4 h)
                  have f3 : ((k : Int) != (t : Int)) = false := by simp [q3]
                  have Q3 := Lib.hid q3
                  clear q3
                  go_wp2_with fail
                  go_quiet (fail)
                  go_wp2
                  go_roundw
                  case rel => exact ⟨k + 1, by omega, by go_num, Hkeep.out _ Hv.out, Hbk.out _, HB8k.out _⟩
                  case measure => simp [intOf]; omega
                · have f3 : ((k : Int) != (t : Int)) = true := by simpa using (by omega : ¬ (k : Int) = t)
                  by_cases q2 : (k : Int) ∈ lX
                  · have Hv : Hid (Sink (lpOf locs) bs t k) := Lib.hid (Hs.out.2 (.inr (.inl ⟨q2, q3⟩)))
                    have HcX' : Hid (∀ z, Calls Try.prog 18 #[.slice aX lX.length cX, .int .i64 k] ((wr.alloc (.cells #[.string x.kind, .string x.name, .int .i64 x.fr, .int .i64 x.to, .int .i64 lk] 47)).drewN z) fun e w' => e = .returned (.bool true) ∧ w' = (wr.alloc (.cells #[.string x.kind, .string x.name, .int .i64 x.fr, .int .i64 x.to, .int .i64 lk] 47)).drewN z) := fun z => by
                      have h := HcX.out z; rw [decide_eq_true q2] at h; exact h
                    clear q2 q3
                    go_wp2_with fail
                    go_quiet (exact Calls.quiet_of_same (HcX'.out _))
                    go_wp2
                    go_roundw
                    case rel => exact ⟨k + 1, by omega, by go_num, Hset.out _ Hv.out, Hbs.out _, HB8s.out _⟩
                    case measure => simp [intOf]; omega
                  · have Hv : Hid (¬ Sink (lpOf locs) bs t k) := Lib.hid (fun h => by rcases Hs.out.1 h with h | ⟨h, _⟩ | h <;> first | exact q1 h | exact q2 h | exact q4 h)
                    have HcX' : Hid (∀ z, Calls Try.prog 18 #[.slice aX lX.length cX, .int .i64 k] ((wr.alloc (.cells #[.string x.kind, .string x.name, .int .i64 x.fr, .int .i64 x.to, .int .i64 lk] 47)).drewN z) fun e w' => e = .returned (.bool false) ∧ w' = (wr.alloc (.cells #[.string x.kind, .string x.name, .int .i64 x.fr, .int .i64 x.to, .int .i64 lk] 47)).drewN z) := fun z => by
                      have h := HcX.out z; rw [decide_eq_false q2] at h; exact h
                    clear q2 q3
                    go_wp2_with fail
                    go_quiet (exact Calls.quiet_of_same (HcX'.out _))
                    go_wp2
                    go_roundw
                    case rel => exact ⟨k + 1, by omega, by go_num, Hkeep.out _ Hv.out, Hbk.out _, HB8k.out _⟩
                    case measure => simp [intOf]; omega
          · obtain rfl : k = locs.length := by omega
            have h6 := hown.out
            have e6 : lookM (lpOf locs) bs t locs.length (locs.length - locs.length) = look0 (lpOf locs) bs t locs.length := by simp [lookM, look0]
            rw [e6] at h6
            obtain ⟨LK, N, hplan⟩ := plan_exists (HC.out HR.out) HBs.out Hin.out Hok.out HF.out.deref
            rw [← hplan.zero] at h6
            have hN : N ≤ 1099511627776 := Nat.le_trans hplan.short HF.out.m
            have hN1 := hplan.one
            have Hplan := Lib.hid hplan
            have H6 := Lib.hid h6
            have hBw : w2.heap.size + 1 ≤ wr.heap.size := hB8.out.lt
            clear h6 e6 hplan hown
            go_wp2_with fail
            go_loopg [9, 12] N (fun q lk all wr => ∃ (m : Nat) (a : Option Addr) (c : Nat) (aA : Option Addr) (cA : Nat) (vals : List Value), m < N ∧ q = N - m ∧ lk = .slice a locs.length c ∧ all = .slice aA m cA ∧ Hid (Own wr (w2.heap.size + 1) 3 1 a locs.length c ((LK m).map (Value.int .i64))) ∧ Hid (Own wr (w2.heap.size + 1) 28 1 aA m cA vals) ∧ Hid (AllR wr (w2.heap.size + 1) locs.length LK m vals) ∧ Hid (Below w2.heap.size w2 wr) ∧ Hid (Blk wr w2.heap.size #[.pointer (some ⟨gx, 0, none⟩)] 53))
            case atStart => exact ⟨0, _, c3, none, 0, [], by omega, rfl, rfl, rfl, H6, Own.nil _ _ _ _, ⟨rfl, fun j hj => by omega⟩, hb, hB8⟩
            case round =>
              clear H6 hb hB8 hBw
              obtain ⟨m, a, c, aA, cA, vals, hmN, rfl, rfl, rfl, hlk, hownA, hall, hb, hB8⟩ := hrel
              have hBw : w2.heap.size + 1 ≤ wr.heap.size := hB8.out.lt
              have HG := Lib.hid (fun (o : Obj) (w6 : World) (hg : (wr.alloc o).grownBy w6 (rowOf aA cA)) => (And.intro ((hlk.out.alloc o).keptType (hownA.out.alloc o) (by decide) hg) (And.intro ((hall.out.ext (below_a1 wr o)).grown (hownA.out.alloc o) (by decide) hg) (And.intro (((hB8.out.alloc o).grown hg (hownA.out.apart (by omega)))) ((hb.out.alloc hb.out.size o).grown hg (by simp; omega) (fun q hq => by have := hownA.out.rowBase (Nat.le_refl _) q hq; omega))))))
              have HA := Lib.hid (fun (o : Obj) => hownA.out.alloc o)
              clear hlk hownA hall hb hB8
              go_wp2_with (at_builtin; refine wpList_append_Own rfl _ _ 56 rfl (w2.heap.size + 1) 28 _ 1 24 Try.underlying56 Try.infoIntsRow rfl (by decide) aA m cA _ rfl (by exact HA.out _) _ 1 1 [.slice a locs.length c] rfl (Row.new1 (by simp) rfl rfl) (by simp [Value.oneCell']) (by unfold maxLen; omega) (by omega) (by simp; omega) ?_; intro aA' cA' w6 hown6 hg6 hbk6; obtain ⟨g1, g2, g3, g4⟩ := HG.out _ _ hg6; have b8 := g3.cell 0; have Hown6 := Lib.hid hown6; have Hlk6 := Lib.hid g1; have Hall6 := Lib.hid (g2.snoc g1); have HB6 := Lib.hid g3; have Hb6 := Lib.hid g4; clear hown6 hg6 hbk6 g1 g2 g3 g4 HG HA; simp only [List.getElem?_toArray, List.getElem?_cons_zero] at b8)
              have Hlonger : Hid (Calls Try.prog 21 #[.pointer (some ⟨gx, 0, none⟩), .slice a locs.length c] w6 (Ret w6 (IntsOf w6.heap.size (Longer edges (LK m))))) := by
                refine Lib.hid ?_
                have h := longer_any gx locs.length a c edges F (LK m) w6 (HY.out.ext Hb6.out) (by rw [Hplan.out.len m]; exact Hlk6.out.row) (Hplan.out.len m) Hok.out hl hn0 hle (Hplan.out.small HF.out.d HF.out.m (by omega))
                rw [Hplan.out.len m] at h
                exact h
              refine Hlonger.out.mono ?_
              rintro e w7 ⟨v, rfl, hb7, lo, hlong, a7, c7, rfl, hown7, hg7⟩
              obtain rfl := (Hplan.out.step m).unique hlong
              have hl7 := Hplan.out.len (m + 1)
              rw [hl7] at hown7 hg7 ⊢
              obtain ⟨g7, rfl⟩ := hg7 hn0
              obtain ⟨u, hu⟩ := get_some (l := LK (m + 1)) (i := t) (by rw [hl7]; exact htn)
              obtain ⟨_, u2, _, _⟩ := hown7.at0 htn
              rw [List.getElem?_map, hu] at u2
              simp only [Option.map_some] at u2
              have Hu := Lib.hid hu
              have Hlk7 := Lib.hid (hown7.mono (base' := w2.heap.size + 1) (by have := HB6.out.lt; show w2.heap.size + 1 ≤ w6.heap.size; omega))
              have HownA7 := Lib.hid (Hown6.out.ext hb7)
              have Hall7 := Lib.hid (Hall6.out.ext hb7)
              have HB7 := Lib.hid (HB6.out.ext hb7)
              have Hb7 := Lib.hid (Hb6.out.trans (hb7.mono Hb6.out.size))
              clear hlong hown7 hg7 hl7 hu hb7 Hown6 Hlk6 Hall6 HB6 Hb6 Hlonger b8
              by_cases hstop : m + 1 = N
              · have hu1 : u = -1 := by have h := Hplan.out.last; rw [← hstop, Hu.out] at h; simpa using h
                have fu : (u == -1) = true := by simp [hu1]
                have Hstop := Lib.hid hstop
                clear hu1 hstop
                obtain ⟨bA, oA, rfl, hcA⟩ := HownA7.out.row.2 (by omega)
                have hbA := (HownA7.out.size (g := bA) (by have := HownA7.out.le; omega) rfl).2
                have hex : ∀ j, ∃ q : Option Addr × Nat, j < m + 1 → w7.cell? ⟨bA, oA + j, none⟩ = some (.slice q.1 locs.length q.2) ∧ Row w7 1 q.1 (LK j).length ((LK j).map (Value.int .i64)) := fun j => by
                  by_cases hj : j < m + 1
                  · obtain ⟨a, c, q1, q2⟩ := Hall7.out.each j hj
                    exact ⟨(a, c), fun _ => ⟨by rw [hcA j (by omega), q1], by rw [Hplan.out.len j]; exact q2.row⟩⟩
                  · exact ⟨(none, 0), fun h => absurd h hj⟩
                obtain ⟨SA, hSA⟩ := Classical.axiomOfChoice hex
                have HSA := Lib.hid hSA
                have hB7 : w2.heap.size < w7.heap.size := HB7.out.lt
                have b8 := HB7.out.cell 0
                simp only [List.getElem?_toArray, List.getElem?_cons_zero] at b8
                clear hex hSA hcA HownA7 Hall7 Hlk7 Hu
                go_wp2_with fail
                go_step3
                go_wp2_with fail
                refine (back_any (some ⟨bA, oA, none⟩) (m + 1) cA' _).mono ?_
                rintro e w8 ⟨rfl, hw8⟩
                go_wp2_with fail
                clear hw8
                generalize hW9 : World.alloc (World.alloc (World.alloc (World.alloc w7 _) _) _) _ = W9
                have h9sz : W9.heap.size = w7.heap.size + 1 + 1 + 1 + 1 := by subst hW9; simp
                have hb9 : Below w7.heap.size w7 W9 := by subst hW9; exact ((((Below.refl _ w7).alloc (Nat.le_refl _) _).alloc (by simp) _).alloc (by simp; omega) _).alloc (by simp; omega) _
                have hst9 : RSt W9 w7.heap.size F LK t [] [(t : Int)] (-1) (some ⟨w7.heap.size, 0, none⟩) 1 := by
                  subst hW9
                  exact ⟨.nil, ((Blk.new (by simp)).alloc _).alloc _, (Blk.new (by simp)).alloc _, (((Own.ofBlock (Nat.le_refl _) (Blk.new rfl) (n := 1) rfl (by unfold maxLen; omega)).alloc _).alloc _).alloc _, fun g hg => by simp [blockOf] at hg; omega⟩
                have hbs9 : W9.cell? ⟨w7.heap.size + 1 + 1 + 1, 0, none⟩ = some (.slice (some ⟨bA, oA, none⟩) (m + 1) cA') := by
                  subst hW9; exact (cell_new (by simp)).trans rfl
                clear hW9
                have Hb9 := Lib.hid hb9
                have Hst9 := Lib.hid hst9
                have Hbs9 := Lib.hid hbs9
                have hcA9 : ∀ j, j < m + 1 → W9.cell? ⟨bA, oA + j, none⟩ = some (.slice (SA j).1 locs.length (SA j).2) := fun j hj => below_ext hb9 (HSA.out j hj).1
                have HcA9 := Lib.hid hcA9
                have HKb : Hid (∀ (W : World) (l : Nat) (o o' : Obj), W9.heap.size ≤ l → W.heap[l]? = some o → o.isCells = false → o.isWalk = false → KpS w7.heap.size (w7.heap.size + 1 + 1 + 1) W (W.putObj l o')) := kpS_b (by omega) (by omega)
                clear hb9 hst9 hbs9 hcA9
                refine (wpIn_wide (n := 9)).1 ?_
                refine wpIn_rangeFunc_ownG (a := ?a) rfl (by decide) (gf := 42) (lb := #[.pointer (some ⟨w7.heap.size + 1 + 1 + 1, 0, none⟩)]) rfl trivial (enters_of Try.func42 (by kernel_rfl) rfl)
                  (back_stops Fence.wide 8 trivial rfl (by decide) (w7.heap.size + 1 + 1 + 1) w7.heap.size (m + 1) cA' bA oA (fun j => .slice (SA j).1 locs.length (SA j).2) (by omega) (by omega) W9 (by omega) hbA (by omega) Hbs9.out HcA9.out) (fun h k => h.trans k) HKb.out (Below.refl _ _) (fun _ => rfl)
                  (fun pre W => ((∃ out mm a cap, RSt W w7.heap.size F LK t (pre.map (·.1)).reverse out mm a cap) ∧ Below w7.heap.size w7 W) ∧ w7.heap.size + 1 + 1 + 1 < W.heap.size) (fun _ _ _ => False)
                  (fun pre X Y row hs hg hr => ⟨⟨by obtain ⟨out, mm, a, cap, h⟩ := hs.1.1; exact ⟨out, mm, a, cap, h.abide hg (fun r e => (hr r e).2)⟩, hs.1.2.grown hg hs.1.2.size (fun k e => by have := (hr k e).1; omega)⟩, by have := hg.size; have := hs.2; omega⟩)
                  (fun _ _ _ _ _ hs _ _ => hs) ⟨⟨⟨_, _, _, _, Hst9.out⟩, Hb9.out⟩, by omega⟩
                  (fun x => { tmps := ((((#[101, 102] : Array Tmp).zip #[Value.int .i64 (x.1 : Int), Value.slice (SA x.1).1 locs.length (SA x.1).2]).foldl (fun t (p, v) => t.setIfInBounds p v) (?a : Act).tmps).setIfInBounds 16 (Value.slice (SA x.1).1 locs.length (SA x.1).2)), defers := [] }) ?assign ?body ?done ?stop
                case assign =>
                  intro l x W K hK
                  simp only [List.setIfInBounds_toArray, List.set_cons_zero, List.set_cons_succ, List.zip_toArray, List.zip_cons_cons, List.zip_nil_right, List.foldl_toArray, List.foldl_cons, List.foldl_nil] at hK ⊢
                  gi_wp2
                  exact hK
                case body =>
                  rintro lr pre x W ⟨⟨⟨out, mm, a, cap, hst⟩, hB⟩, hWs⟩ hlt
                  simp only [List.setIfInBounds_toArray, List.set_cons_zero, List.set_cons_succ, List.zip_toArray, List.zip_cons_cons, List.zip_nil_right, List.foldl_toArray, List.foldl_cons, List.foldl_nil]
                  obtain ⟨r1, r2, r3, r4, r5⟩ := hst.run.facts HY.out Hok.out (by omega)
                  simp only [List.length_reverse, List.length_map] at r3 r4 r5
                  obtain ⟨l, hl1⟩ : ∃ l, out.length = l + 1 := ⟨out.length - 1, by omega⟩
                  obtain ⟨c, hc⟩ := get_some (l := out) (i := l) (by omega)
                  have hcl : ∃ pre', out = pre' ++ [c] := ⟨out.take l, by rw [← take_snoc hc, ← hl1, List.take_length]⟩
                  obtain ⟨hc0, hcn⟩ := r1 c (List.mem_of_getElem? hc)
                  obtain ⟨cN, rfl⟩ := Int.eq_ofNat_of_zero_le hc0
                  obtain ⟨bO, oO, rfl, o1⟩ := row_int hst.own.row hc
                  have hBsz := hB.size
                  have h13 := hst.b13.cell 0
                  have h14 := hst.b14.cell 0
                  have z13 := hst.b13.free 0
                  have z14 := hst.b14.free 0
                  simp only [List.getElem?_toArray, List.getElem?_cons_zero] at h13 h14
                  have hYW := HY.out.ext (Hb7.out.trans (hB.mono (by omega)))
                  obtain ⟨gb, cc, g3, hrows⟩ := hYW.cells
                  obtain ⟨aF, cF, f3, fr⟩ := hrows cN (by omega)
                  have hlF := hYW.len cN (by omega)
                  have b8W := (hB.cell (p := ⟨w2.heap.size, 0, none⟩) hB7).trans b8
                  obtain ⟨xj, hxj⟩ := x
                  have hrM := (HSA.out xj hxj).2.ext hB
                  simp only
                  generalize SA xj = sa at *
                  obtain ⟨sa1, sa2⟩ := sa
                  simp only at hrM ⊢
                  have hbW := Hplan.out.small HF.out.d HF.out.m (k := xj) (by have := Hstop.out; omega)
                  have hlW := Hplan.out.len xj
                  have hmemW := hYW.mem cN (by omega)
                  have Hst := Lib.hid hst
                  have HB := Lib.hid hB
                  have Hfr := Lib.hid fr
                  have HrM := Lib.hid hrM
                  have HbW := Lib.hid hbW
                  have HlW := Lib.hid hlW
                  have Hmem := Lib.hid hmemW
                  have Hcl := Lib.hid hcl
                  rw [hl1] at h13
                  have hlb : l ≤ 1099511627776 := by omega
                  have Hl1 := Lib.hid hl1
                  have hwl : IntKind.i64.wrap (l : Int) = (l : Int) := by simp [IntKind.wrap, IntKind.bits, IntKind.signed]; omega
                  have hll : (l : Int) < (l : Int) + 1 := by omega
                  clear hst hB fr hrM hbW hlW hmemW hcl hYW hrows hc r1 hl1
                  gi_wp2_with fail
                  refine region_round (by kernel_rfl) (by kernel_rfl) (by kernel_rfl) ?_
                  repeat (gi_big_quiet_step (fail))
                  refine wpQuietIn_nil ?_
                  intro _ hw'
                  obtain ⟨nq, hw''⟩ := hw'
                  subst hw''
                  gi_wp2_with fail
                  gi_loopw [116] (fun i wr => ∃ q : Nat, q ≤ (F cN).length ∧ i = .int .i64 q ∧ Hid (∀ (i : Nat) y, i < q → (F cN)[i]? = some y → ¬ Room (LK xj) mm y) ∧ Hid (Below W.heap.size W wr)) (fun i _ => (F cN).length - (intOf i).toNat)
                  case atStart => exact ⟨0, Nat.zero_le _, rfl, fun i y h => by omega, below_drewN (Below.refl _ W) _⟩
                  case round =>
                    obtain ⟨q, hq, rfl, hno, hb⟩ := hrel
                    by_cases hlt2 : q < (F cN).length
                    · obtain ⟨y, hy⟩ := get_some hlt2
                      have hok := Hok.out y ((Hmem.out y).1 (List.mem_of_getElem? hy)).1
                      obtain ⟨bE, oE, rfl, e1, e2, e3, hbE⟩ := edge_at (Hfr.out.ext hb.out) hy
                      have Hy := Lib.hid hy
                      obtain ⟨ys, yd, yr⟩ := y
                      obtain ⟨p1, p2, p3, p4, p5, p6⟩ := hok
                      simp only at e1 e2 e3 p1 p2 p3 p4 p5 p6
                      obtain ⟨d, hd⟩ := get_some (l := LK xj) (i := yd.toNat) (by have := HlW.out; omega)
                      obtain ⟨hd1, hd2⟩ := HbW.out d (List.mem_of_getElem? hd)
                      have Hd := Lib.hid hd
                      have Hba := Lib.hid ((Below.refl wr.heap.size wr).alloc (Nat.le_refl _) (.cells #[.int .i64 ys, .int .i64 yd, .int .i64 yr] 48))
                      have Hlook : Hid (Calls Try.prog 23 #[.agg #[.int .i64 ys, .int .i64 yd, .int .i64 yr], .slice sa1 locs.length sa2] (wr.alloc (.cells #[.int .i64 ys, .int .i64 yd, .int .i64 yr] 48)) (Ret (wr.alloc (.cells #[.int .i64 ys, .int .i64 yd, .int .i64 yr] 48)) (fun v _ => v = .tuple #[.int .i64 (max d 0 + yr), .bool (d != -2)]))) := by
                        refine Lib.hid ?_
                        have h := look_any ys yd yr d sa1 sa2 (LK xj) _ (HrM.out.ext (hb.out.trans (Hba.out.mono hb.out.size))) (by have := HlW.out; omega) p3 hd hd1 hd2 p5 p6
                        rw [HlW.out] at h
                        exact h
                      clear hy hd hbE
                      have h13r := below_ext (hb.out.trans (Hba.out.mono hb.out.size)) h13
                      have h14r := below_ext (hb.out.trans (Hba.out.mono hb.out.size)) h14
                      gi_wp2_with fail
                      refine ⟨trivial, ?_⟩
                      refine (CallsIn.inRound lr (callsIn_wide.2 Hlook.out)).mono ?_
                      rintro e w9 ⟨v, rfl, hb9', rfl⟩
                      have Hb9w := Lib.hid ((hb.out.trans (Hba.out.mono hb.out.size)).trans (hb9'.mono (hb.out.trans (Hba.out.mono hb.out.size)).size))
                      have k1 : w9.cell? ⟨wr.heap.size, 1, none⟩ = some (.int .i64 yd) := below_ext hb9' (cell_new (w := wr) (c := #[.int .i64 ys, .int .i64 yd, .int .i64 yr]) (t := 48) (i := 1) (b := wr.heap.size) rfl)
                      have k2 : w9.cell? ⟨wr.heap.size, 2, none⟩ = some (.int .i64 yr) := below_ext hb9' (cell_new (w := wr) (c := #[.int .i64 ys, .int .i64 yd, .int .i64 yr]) (t := 48) (i := 2) (b := wr.heap.size) rfl)
                      have hroom : Room (LK xj) mm ⟨ys, yd, yr⟩ ↔ d ≠ -2 ∧ max d 0 + yr ≤ mm := ⟨fun ⟨z, z1, z2, z3⟩ => by rw [Hd.out] at z1; cases z1; exact ⟨z2, z3⟩, fun ⟨z2, z3⟩ => ⟨d, Hd.out, z2, z3⟩⟩
                      have hno2 : ¬ Room (LK xj) mm ⟨ys, yd, yr⟩ → ∀ (i : Nat) y, i < q + 1 → (F cN)[i]? = some y → ¬ Room (LK xj) mm y := fun hn i y hi hy => by
                        rcases Nat.lt_or_ge i q with h | h
                        · exact hno.out i y h hy
                        · obtain rfl : i = q := by omega
                          rw [Hy.out] at hy; cases hy; exact hn
                      have Hno2 := Lib.hid hno2
                      have Hroom := Lib.hid hroom
                      have h13w := below_ext Hb9w.out h13
                      have h14w := below_ext Hb9w.out h14
                      have hw9s := Hb9w.out.size
                      have hwr9 : wr.heap.size < w9.heap.size := cell_lt (a := ⟨wr.heap.size, 1, none⟩) k1
                      have hWr : W.heap.size ≤ wr.heap.size := hb.out.size
                      clear hno2 hroom hb9' h13r h14r Hlook
                      generalize max d 0 + yr = mx at *
                      by_cases hd3 : d = -2
                      · have fd : (d != -2) = false := by simpa using hd3
                        have Hd3 := Lib.hid hd3
                        clear hd3
                        gi_wp2
                        go_roundw
                        case rel => exact ⟨q + 1, by omega, by go_num, Hno2.out (fun h => (Hroom.out.1 h).1 Hd3.out), Hb9w⟩
                        case measure => simp [intOf]; omega
                      · have fd : (d != -2) = true := by simpa using hd3
                        have Hd3 := Lib.hid hd3
                        clear hd3
                        by_cases hle3 : mx ≤ mm
                        · have HR3 := Lib.hid (Hroom.out.2 ⟨Hd3.out, hle3⟩)
                          have HownO := Lib.hid (Hst.out.own.ext Hb9w.out)
                          have HownO' : Hid (∀ o, Own (w9.alloc o) w7.heap.size 3 1 (some ⟨bO, oO, none⟩) (l + 1) cap (out.map (Value.int .i64))) := fun o => by
                            have := HownO.out.alloc o
                            rw [Hl1.out] at this; exact this
                          have hap := Hst.out.ap bO rfl
                          have hrow : ∀ g, rowOf (some ⟨bO, oO, none⟩) cap = some g → g = bO := fun g hg => by
                            unfold rowOf at hg; split at hg
                            · cases hg
                            · simp [blockOf] at hg; omega
                          have Hrow := Lib.hid hrow
                          have hbO9 : bO < W.heap.size := (Hst.out.own.size (g := bO) (by have h1 := Hst.out.own.le; have h2 := Hl1.out; omega) rfl).2
                          clear hrow
                          gi_wp2_with (gi_at_builtin; (refine wpListIn_append_Own rfl _ _ 28 rfl w7.heap.size 3 _ 1 8 Try.underlying28 Try.infoInt rfl (by decide) (some ⟨bO, oO, none⟩) (l + 1) cap _ rfl (by exact HownO'.out _) _ 1 1 [.int .i64 yd] rfl (Row.new1 (by simp) rfl rfl) (by simp [Value.oneCell']) (by unfold maxLen; omega) (by omega) (by simp; omega) ?_); intro a' c' w6 hown6 hg6 hbk6; have y13 := (((Hst.out.b13.ext Hb9w.out).alloc _).grown hg6 (fun e' => by have := Hrow.out _ e'.symm; omega)); have y14 := (((Hst.out.b14.ext Hb9w.out).alloc _).grown hg6 (fun e' => by have := Hrow.out _ e'.symm; omega)); have q13 := y13.cell 0; have u13 := y13.free 0; have q14 := y14.cell 0; have u14 := y14.free 0; simp only [List.getElem?_toArray, List.getElem?_cons_zero] at q13 q14; have n2 := World.grownBy.cell hg6 (below_ext (below_a1 w9 _) k2) (fun e' => by have := Hrow.out _ e'.symm; simp at this; omega); have Hown6 := Lib.hid hown6; have Hg6 := Lib.hid hg6; have Hbk6 := Lib.hid hbk6; clear hown6 hg6 hbk6 y13 y14)
                          have H := Hst.out.hit hWs Hb9w.out Hcl.out (by rw [Int.toNat_natCast]; exact Hy.out) HR3.out (fun i y hi hy => hno.out i y hi (by rw [Int.toNat_natCast] at hy; exact hy)) (by rw [Hl1.out]; exact Hown6.out) Hg6.out Hbk6.out
                          rw [Hl1.out] at H
                          refine ⟨H.2.2 _, H.2.1, ⟨⟨out ++ [yd], mm - yr, a', c', ?_⟩, HB.out.trans H.2.1.1⟩, ?_⟩
                          · rw [List.map_append, List.reverse_append]; exact H.1
                          · exact Nat.lt_of_lt_of_le hWs (H.2.2 0).size
                        · gi_wp2
                          go_roundw
                          case rel => exact ⟨q + 1, by omega, by go_num, Hno2.out (fun h => by have h9 := (Hroom.out.1 h).2; omega), Hb9w⟩
                          case measure => simp [intOf]; omega
                    · obtain rfl : q = (F cN).length := by omega
                      gi_wp2
                      refine ⟨keeps_ext hb.out, kpS_ext hb.out (by omega) (by omega), ⟨⟨out, mm, some ⟨bO, oO, none⟩, cap, ?_⟩, HB.out.trans (hb.out.mono (by omega))⟩, by have := hb.out.size; omega⟩
                      have h1 := Hst.out.ext hb.out
                      rw [List.map_append, List.reverse_append]
                      exact ⟨.miss h1.run Hcl.out (fun i y hy => by rw [Int.toNat_natCast] at hy; exact hno.out i y (get_lt hy) hy), h1.b13, h1.b14, h1.own, h1.ap⟩
                case done =>
                  rintro D' ys W hD hys ⟨⟨⟨out, mm, a, cap, hst⟩, hB⟩, -⟩ hK
                  have h13 := hst.b13.cell 0
                  simp only [List.getElem?_toArray, List.getElem?_cons_zero] at h13
                  go_wp2
                  rw [Exit.noGoto_ret]
                  refine ⟨by simp, .inl ⟨_, _, rfl, run_takeDeferred hK, ?_⟩⟩
                  have hrun := hst.run
                  rw [hys] at hrun
                  obtain ⟨c, hdesc⟩ := RunR.desc HY.out Hok.out htn (Hstop.out ▸ Hplan.out) (m + 1) (Nat.le_refl _) hrun
                  rw [Nat.sub_self] at hdesc
                  have hp := Hstop.out ▸ Hplan.out
                  have hKpp := kpS_b (w := W9) (s := w7.heap.size) (b := w7.heap.size + 1 + 1 + 1) (by omega) (by omega) W D' _ (.deferred none) hD hK rfl rfl
                  refine ⟨_, results_tmp2 rfl _ _ _, _, rfl, (Hb7.out.trans ((hB.trans hKpp.1).mono (by omega))) |> (fun h => Hb2.out.trans (h.mono (by have := Hb2.out.size; omega))), .inr ⟨HR.out, t, rfl, htn, bs, HBs.out, .inr ⟨Hin.out, out, _, ⟨m + 1, by omega, ⟨_, hp.looks (m + 1), hp.last⟩, fun j a h1 h2 ha => by obtain rfl := ha.unique (hp.looks j); exact hp.first j h1 h2, c, mm, hdesc⟩, rfl, a, cap, rfl, ?_⟩⟩⟩
                  exact (own_abide hst.own (grownBy_putObj' W D' _) (fun r e => by cases e; exact ⟨_, hK, rfl⟩)).mono (by omega)
                case stop =>
                  rintro D c pre W _ _ h _
                  exact h.elim
              · have hu1 : u ≠ -1 := fun h => Hplan.out.first (m + 1) (by omega) (by omega) (by rw [Hu.out, h])
                have fu : (u == -1) = false := by simpa using hu1
                clear hu1
                go_wp2
                go_roundg (N - (m + 1))
                case measure => omega
                case rel => exact ⟨m + 1, _, c7, aA', cA', _, by omega, rfl, rfl, rfl, Hlk7, HownA7, Hall7, Hb7, HB7⟩
      · have fin : decide ((t : Int) ∈ lX) = false := by simpa using fun h => hin ((HmX.out t).1 h)
        have Hin := Lib.hid hin
        clear hin
        go_wp2_with fail
        refine (contains_any aX cX lX t _ HrX.out hlX).mono ?_
        rintro e w' ⟨rfl, rfl⟩
        go_wp2
        rw [Exit.noGoto_ret]
        exact ⟨_, results_tmp2 rfl _ _ _, _, rfl, Hb1.out, .inr ⟨HR.out, t, rfl, htn, bs, HBs.out, .inl ⟨Hin.out, rfl⟩⟩⟩
    · go_wp2
      all_goals ((try rw [Exit.noGoto_ret]); exact ⟨_, results_tmp2 rfl _ _ _, _, rfl, Hb1.out, .inl ⟨fun h => hto h.2, rfl⟩⟩)
end Go.Proofs.Ytadekfjgdbngdaa
