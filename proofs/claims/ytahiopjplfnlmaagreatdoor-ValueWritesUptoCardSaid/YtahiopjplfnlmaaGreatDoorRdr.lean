/- value, and Read: walked. -/
import Derived.Test.YtahiopjplfnlmaaGreatDoorPar3
namespace Go.Proofs.YtahiopjplfnlmaaGreatDoor
open Go Go.RowKit

theorem parts_any (f : Nat) (HV : Hid (∀ g, g ≤ f → ∀ (b : Nat) (s : Nm) (o : Nat) (w : World), Glob w → 8 ≤ b → RdAt w b s o → s.length ≤ 1048576 → o ≤ 20 → valL g o s ≠ .out → Calls Tryz.prog 30 #[.pointer (some ⟨b, 0, none⟩)] w (VaE w b o (valL g o s))))
    (b : Nat) (s : Nm) (o : Nat) (sort : Int) (e : UInt8) (w : World) (hG : Glob w) (hb8 : 8 ≤ b) (h : RdAt w b s o) (hs : s.length ≤ 1048576) (ho : o ≤ 20) (hne : partsL (f + 1) o sort e s ≠ .out) :
    Calls Tryz.prog 45 #[.pointer (some ⟨b, 0, none⟩), .int .i64 sort, .string ⟨([e] : Nm).toArray⟩] w (VaE w b o (partsL (f + 1) o sort e s)) := by
  have hp := partsL_step f o sort e s
  by_cases h20 : 20 ≤ o
  · rw [if_pos h20] at hp
    exact parts_deep b s o sort e w h h20 (by omega) _ hp
  · rw [if_neg h20] at hp
    cases ht : takes [e] (skip s) with
    | some r =>
      rw [ht] at hp
      exact parts_empty b s r o sort e w h (by omega) ht _ hp
    | none =>
      rw [ht] at hp
      exact parts_loop f HV b s o sort e w hG hb8 h hs (by omega) ht _ hp hne
theorem store6_val {w : World} {g : Nat} {v0 v1 v2 v3 v4 v5 : Value} {T : TypeId} (d : VD) (h : Blk w g #[v0, v1, v2, v3, v4, v5] T) : Blk (put6 w g 0 (.int .i64 d.sort) (.bool d.on) (.int .i64 d.n) (.string ⟨d.text.toArray⟩) (.slice d.a d.list.length d.c) (.slice d.ka d.keys.length d.kc)) g #[.int .i64 d.sort, .bool d.on, .int .i64 d.n, .string ⟨d.text.toArray⟩, .slice d.a d.list.length d.c, .slice d.ka d.keys.length d.kc] T := by
  simpa [put6] using store6 (u0 := .int .i64 d.sort) (u1 := .bool d.on) (u2 := .int .i64 d.n) (u3 := .string ⟨d.text.toArray⟩) (u4 := .slice d.a d.list.length d.c) (u5 := .slice d.ka d.keys.length d.kc) h

/-- a value that is handed on, with the blanks behind it passed over -/
def VbE (w : World) (b : Nat) (o : Int) (res : Res) (d : VD) (k : Int) (t : Nm) (o' : Int) (w' : World) : Prop :=
  Keep b w w' ∧ RdAt w' b t o' ∧ o ≤ o' ∧ o' ≤ o + 1 ∧ match res with
  | .out => False
  | .err j => k = j
  | .ok v t' => k = 0 ∧ d.v = v ∧ ValAt w' (fun k => w.heap.size ≤ k) d ∧ t = t' ∧ o' = o
theorem vbE_of {w w' : World} {b : Nat} {o : Int} {res : Res} {e : Ending} (h : VaE w b o res e w') (hne : res ≠ .out) : ∃ d k t o', e = .returned (.tuple #[VD.val d, .int .i64 k]) ∧ VbE w b o res d k t o' w' := by
  cases res with
  | out => exact absurd rfl hne
  | err j =>
    obtain ⟨d, t, o', he, hk, hr, h1, h2⟩ := h
    exact ⟨d, j, t, o', he, hk, hr, h1, h2, rfl⟩
  | ok v t =>
    obtain ⟨d, he, hv, ha, hk, hr⟩ := h
    exact ⟨d, 0, t, o, he, hk, hr, by omega, by omega, rfl, hv, ha, rfl, rfl⟩
theorem vaE_fin {w w0 W : World} {b : Nat} {o : Int} {res : Res} {d : VD} {k : Int} {t : Nm} {o' : Int} (h : VbE w0 b o res d k t o' W) {w' : World} (hk : Keep b w w') (hr : RdAt w' b (skip t) o') (ha : ValAt W (fun k => w.heap.size + 1 ≤ k) d → ValAt w' (fun k => w.heap.size ≤ k) d) (hd : ∀ v t', res = .ok v t' → ValAt W (fun k => w.heap.size + 1 ≤ k) d) :
    VaE w b o (finL res) (.returned (.tuple #[.agg #[.int .i64 d.sort, .bool d.on, .int .i64 d.n, .string ⟨d.text.toArray⟩, .slice d.a d.list.length d.c, .slice d.ka d.keys.length d.kc], .int .i64 k])) w' := by
  obtain ⟨-, -, h1, h2, h3⟩ := h
  rw [← VD.val_eq']
  cases res with
  | out => exact h3.elim
  | err j =>
    obtain rfl := h3
    exact ⟨d, _, o', rfl, hk, hr, h1, h2⟩
  | ok v t' =>
    obtain ⟨rfl, hv, -, rfl, rfl⟩ := h3
    exact ⟨d, rfl, hv, ha (hd _ _ rfl), hk, hr⟩

set_option maxHeartbeats 4000000 in
theorem value_rec (b : Nat) (s : Nm) (o : Nat) (w : World) (h : RdAt w b s o) (res : Res) (hne : res ≠ .out) (r : Nm) (t1 : takes [123] (skip s) = some r) (hc : ∀ w', Keep b w w' → RdAt w' b r o → Calls Tryz.prog 45 #[.pointer (some ⟨b, 0, none⟩), .int .i64 5, .string { data := #[125] }] w' (VaE w' b o res)) :
    Calls Tryz.prog 30 #[.pointer (some ⟨b, 0, none⟩)] w (VaE w b o (finL res)) := by
  have hbl := Blk.lt h
  have hg : w.heap.size ≠ b := by omega
  have hz0 : Blk (w.alloc (.cells zeroV 34)) w.heap.size zeroV 34 := Blk.new rfl
  have h1 := skip_any b s o (w.alloc (.cells zeroV 34)) (h.ext (below_a1 _ _))
  have H1 := Lib.hid h1
  have HZ0 := Lib.hid hz0
  have Hne := Lib.hid hne
  unfold zeroV at H1
  have HC := Lib.hid hc
  have T1 := Lib.hid t1
  clear hc t1
  clear h1 h hz0 hne
  go_enter Tryz.func30, Tryz.ntmps30
  go_wp2_with fail
  refine H1.out.mono ?_
  rintro e w1 ⟨rfl, hk1, hr1⟩
  have HZ1 := Lib.hid (hk1.blk HZ0.out hg)
  have HK1 := Lib.hid hk1.since
  have HR1 := Lib.hid hr1
  have hs1 : w.heap.size + 1 ≤ w1.heap.size := by have := hk1.size; simpa using this
  clear hk1 hr1 H1 HZ0
  go_wp2_with fail
  refine (takes_yes b (skip s) [123] r o w1 HR1.out T1.out).mono ?_
  rintro e w2 ⟨rfl, hk, hr⟩
  have HZ2 := Lib.hid (hk.blk HZ1.out hg)
  have HK2 := Lib.hid (HK1.out.trans hk)
  have HR2 := Lib.hid hr
  have hs2 : w.heap.size + 1 ≤ w2.heap.size := Nat.le_trans hs1 hk.size
  clear hk hr
  go_wp2_with fail
  refine (HC.out w2 HK2.out HR2.out).mono ?_
  intro e w8 hva
  obtain ⟨d, j, t, o', rfl, hvb⟩ := vbE_of hva Hne.out
  have hk8 := hvb.1
  have hr8 := hvb.2.1
  have hz8 := hk8.blk HZ2.out hg
  have HVB := Lib.hid hvb
  have HD : Hid (∀ v t', res = .ok v t' → ValAt w8 (fun k => w.heap.size + 1 ≤ k) d) := Lib.hid fun v t' he => by
    have h := hvb.2.2.2.2
    rw [he] at h
    exact h.2.2.1.mono fun k hk _ => by omega
  have HK8 := Lib.hid (HK2.out.trans hk8)
  have HR8 := Lib.hid hr8
  have HZ8 := Lib.hid hz8
  unfold zeroV at hz8
  have c0 := hz8.cell 0
  have c1 := hz8.cell 1
  have c2 := hz8.cell 2
  have c3 := hz8.cell 3
  have c4 := hz8.cell 4
  have c5 := hz8.cell 5
  have f0 := hz8.free 0
  have f1 := hz8.free 1
  have f2 := hz8.free 2
  have f3 := hz8.free 3
  have f4 := hz8.free 4
  have f5 := hz8.free 5
  simp only [List.getElem?_toArray, List.getElem?_cons_zero, List.getElem?_cons_succ] at c0 c1 c2 c3 c4 c5
  clear hva hvb hk8 hr8 hz8
  rw [VD.val_eq']
  go_upto_region 7 with (fail)
  have hst := store6_val d HZ8.out
  have hrp : RdAt (put6 w8 w.heap.size 0 (.int .i64 d.sort) (.bool d.on) (.int .i64 d.n) (.string ⟨d.text.toArray⟩) (.slice d.a d.list.length d.c) (.slice d.ka d.keys.length d.kc)) b t o' := (put6_other (by omega)).trans HR8.out
  have hkp : Keep b w (put6 w8 w.heap.size 0 (.int .i64 d.sort) (.bool d.on) (.int .i64 d.n) (.string ⟨d.text.toArray⟩) (.slice d.a d.list.length d.c) (.slice d.ka d.keys.length d.kc)) := HK8.out.put6 (Nat.le_refl _) _ _ _ _ _ _
  have hoth : ∀ j, w.heap.size + 1 ≤ j → (put6 w8 w.heap.size 0 (.int .i64 d.sort) (.bool d.on) (.int .i64 d.n) (.string ⟨d.text.toArray⟩) (.slice d.a d.list.length d.c) (.slice d.ka d.keys.length d.kc)).heap[j]? = w8.heap[j]? := fun j hj => put6_other (by omega)
  obtain ⟨w9, hw9⟩ : ∃ w9, w9 = put6 w8 w.heap.size 0 (.int .i64 d.sort) (.bool d.on) (.int .i64 d.n) (.string ⟨d.text.toArray⟩) (.slice d.a d.list.length d.c) (.slice d.ka d.keys.length d.kc) := ⟨_, rfl⟩
  rw [← hw9] at hst hrp hkp hoth
  have HST := Lib.hid hst
  have HRP := Lib.hid hrp
  have HKP := Lib.hid hkp
  have HO := Lib.hid hoth
  unfold put6 at hw9
  try simp only [Nat.zero_add] at hw9
  rw [← hw9]
  clear hst hrp hkp hoth hw9 c0 c1 c2 c3 c4 c5 f0 f1 f2 f3 f4 f5
  go_wp2_with fail
  refine (skip_any b t o' w9 HRP.out).mono ?_
  rintro e w10 ⟨rfl, hk10, hr10⟩
  have hst10 := hk10.blk HST.out hg
  have HK10 := Lib.hid (HKP.out.trans hk10)
  have HR10 := Lib.hid hr10
  have HA : Hid (ValAt w8 (fun k => w.heap.size + 1 ≤ k) d → ValAt w10 (fun k => w.heap.size + 1 ≤ k) d) := Lib.hid fun ha =>
    (ha.congr (w' := w9) fun k hk _ => HO.out k hk).congr (w' := w10) fun k hk hl => hk10.block hl (by omega)
  have HST10 := Lib.hid hst10
  have c0 := hst10.cell 0
  have c1 := hst10.cell 1
  have c2 := hst10.cell 2
  have c3 := hst10.cell 3
  have c4 := hst10.cell 4
  have c5 := hst10.cell 5
  have f0 := hst10.free 0
  have f1 := hst10.free 1
  have f2 := hst10.free 2
  have f3 := hst10.free 3
  have f4 := hst10.free 4
  have f5 := hst10.free 5
  simp only [List.getElem?_toArray, List.getElem?_cons_zero, List.getElem?_cons_succ] at c0 c1 c2 c3 c4 c5
  clear hk10 hr10 hst10
  go_wp2
  have hfin := store6_val d HST10.out
  have hrf : RdAt (put6 w10 w.heap.size 0 (.int .i64 d.sort) (.bool d.on) (.int .i64 d.n) (.string ⟨d.text.toArray⟩) (.slice d.a d.list.length d.c) (.slice d.ka d.keys.length d.kc)) b (skip t) o' := (put6_other (by omega)).trans HR10.out
  have hkf : Keep b w (put6 w10 w.heap.size 0 (.int .i64 d.sort) (.bool d.on) (.int .i64 d.n) (.string ⟨d.text.toArray⟩) (.slice d.a d.list.length d.c) (.slice d.ka d.keys.length d.kc)) := HK10.out.put6 (Nat.le_refl _) _ _ _ _ _ _
  have haf : ValAt w8 (fun k => w.heap.size + 1 ≤ k) d → ValAt (put6 w10 w.heap.size 0 (.int .i64 d.sort) (.bool d.on) (.int .i64 d.n) (.string ⟨d.text.toArray⟩) (.slice d.a d.list.length d.c) (.slice d.ka d.keys.length d.kc)) (fun k => w.heap.size ≤ k) d := fun ha =>
    ((HA.out ha).congr (w' := (put6 w10 w.heap.size 0 (.int .i64 d.sort) (.bool d.on) (.int .i64 d.n) (.string ⟨d.text.toArray⟩) (.slice d.a d.list.length d.c) (.slice d.ka d.keys.length d.kc))) fun k hk _ => put6_other (by omega)).mono fun k hk _ => by omega
  have hend := vaE_fin HVB.out hkf hrf haf HD.out
  obtain ⟨W, hW⟩ : ∃ W, W = (put6 w10 w.heap.size 0 (.int .i64 d.sort) (.bool d.on) (.int .i64 d.n) (.string ⟨d.text.toArray⟩) (.slice d.a d.list.length d.c) (.slice d.ka d.keys.length d.kc)) := ⟨_, rfl⟩
  rw [← hW] at hfin hend
  unfold put6 at hW
  try simp only [Nat.zero_add] at hW
  rw [← hW]
  have d0 := hfin.cell 0
  have d1 := hfin.cell 1
  have d2 := hfin.cell 2
  have d3 := hfin.cell 3
  have d4 := hfin.cell 4
  have d5 := hfin.cell 5
  simp only [List.getElem?_toArray, List.getElem?_cons_zero, List.getElem?_cons_succ] at d0 d1 d2 d3 d4 d5
  exact bodyPost_ret (v := .tuple #[.agg #[.int .i64 d.sort, .bool d.on, .int .i64 d.n, .string ⟨d.text.toArray⟩, .slice d.a d.list.length d.c, .slice d.ka d.keys.length d.kc], .int .i64 j]) (by simp [results, Tryz.results30, go_sem, d0, d1, d2, d3, d4, d5]) rfl hend

set_option maxHeartbeats 4000000 in
theorem value_list (b : Nat) (s : Nm) (o : Nat) (w : World) (h : RdAt w b s o) (res : Res) (hne : res ≠ .out) (r : Nm) (t1 : takes [123] (skip s) = none) (t2 : takes [91] (skip s) = some r) (hc : ∀ w', Keep b w w' → RdAt w' b r o → Calls Tryz.prog 45 #[.pointer (some ⟨b, 0, none⟩), .int .i64 4, .string { data := #[93] }] w' (VaE w' b o res)) :
    Calls Tryz.prog 30 #[.pointer (some ⟨b, 0, none⟩)] w (VaE w b o (finL res)) := by
  have hbl := Blk.lt h
  have hg : w.heap.size ≠ b := by omega
  have hz0 : Blk (w.alloc (.cells zeroV 34)) w.heap.size zeroV 34 := Blk.new rfl
  have h1 := skip_any b s o (w.alloc (.cells zeroV 34)) (h.ext (below_a1 _ _))
  have H1 := Lib.hid h1
  have HZ0 := Lib.hid hz0
  have Hne := Lib.hid hne
  unfold zeroV at H1
  have HC := Lib.hid hc
  have T1 := Lib.hid t1
  have T2 := Lib.hid t2
  clear hc t1 t2
  clear h1 h hz0 hne
  go_enter Tryz.func30, Tryz.ntmps30
  go_wp2_with fail
  refine H1.out.mono ?_
  rintro e w1 ⟨rfl, hk1, hr1⟩
  have HZ1 := Lib.hid (hk1.blk HZ0.out hg)
  have HK1 := Lib.hid hk1.since
  have HR1 := Lib.hid hr1
  have hs1 : w.heap.size + 1 ≤ w1.heap.size := by have := hk1.size; simpa using this
  clear hk1 hr1 H1 HZ0
  go_wp2_with fail
  refine (takes_no b (skip s) [123] o w1 HR1.out T1.out).mono ?_
  rintro e w2 ⟨rfl, hk, hr⟩
  have HZ2 := Lib.hid (hk.blk HZ1.out hg)
  have HK2 := Lib.hid (HK1.out.trans hk)
  have HR2 := Lib.hid hr
  have hs2 : w.heap.size + 1 ≤ w2.heap.size := Nat.le_trans hs1 hk.size
  clear hk hr
  go_wp2_with fail
  refine (takes_yes b (skip s) [91] r o w2 HR2.out T2.out).mono ?_
  rintro e w3 ⟨rfl, hk, hr⟩
  have HZ3 := Lib.hid (hk.blk HZ2.out hg)
  have HK3 := Lib.hid (HK2.out.trans hk)
  have HR3 := Lib.hid hr
  have hs3 : w.heap.size + 1 ≤ w3.heap.size := Nat.le_trans hs2 hk.size
  clear hk hr
  go_wp2_with fail
  refine (HC.out w3 HK3.out HR3.out).mono ?_
  intro e w8 hva
  obtain ⟨d, j, t, o', rfl, hvb⟩ := vbE_of hva Hne.out
  have hk8 := hvb.1
  have hr8 := hvb.2.1
  have hz8 := hk8.blk HZ3.out hg
  have HVB := Lib.hid hvb
  have HD : Hid (∀ v t', res = .ok v t' → ValAt w8 (fun k => w.heap.size + 1 ≤ k) d) := Lib.hid fun v t' he => by
    have h := hvb.2.2.2.2
    rw [he] at h
    exact h.2.2.1.mono fun k hk _ => by omega
  have HK8 := Lib.hid (HK3.out.trans hk8)
  have HR8 := Lib.hid hr8
  have HZ8 := Lib.hid hz8
  unfold zeroV at hz8
  have c0 := hz8.cell 0
  have c1 := hz8.cell 1
  have c2 := hz8.cell 2
  have c3 := hz8.cell 3
  have c4 := hz8.cell 4
  have c5 := hz8.cell 5
  have f0 := hz8.free 0
  have f1 := hz8.free 1
  have f2 := hz8.free 2
  have f3 := hz8.free 3
  have f4 := hz8.free 4
  have f5 := hz8.free 5
  simp only [List.getElem?_toArray, List.getElem?_cons_zero, List.getElem?_cons_succ] at c0 c1 c2 c3 c4 c5
  clear hva hvb hk8 hr8 hz8
  rw [VD.val_eq']
  go_upto_region 7 with (fail)
  have hst := store6_val d HZ8.out
  have hrp : RdAt (put6 w8 w.heap.size 0 (.int .i64 d.sort) (.bool d.on) (.int .i64 d.n) (.string ⟨d.text.toArray⟩) (.slice d.a d.list.length d.c) (.slice d.ka d.keys.length d.kc)) b t o' := (put6_other (by omega)).trans HR8.out
  have hkp : Keep b w (put6 w8 w.heap.size 0 (.int .i64 d.sort) (.bool d.on) (.int .i64 d.n) (.string ⟨d.text.toArray⟩) (.slice d.a d.list.length d.c) (.slice d.ka d.keys.length d.kc)) := HK8.out.put6 (Nat.le_refl _) _ _ _ _ _ _
  have hoth : ∀ j, w.heap.size + 1 ≤ j → (put6 w8 w.heap.size 0 (.int .i64 d.sort) (.bool d.on) (.int .i64 d.n) (.string ⟨d.text.toArray⟩) (.slice d.a d.list.length d.c) (.slice d.ka d.keys.length d.kc)).heap[j]? = w8.heap[j]? := fun j hj => put6_other (by omega)
  obtain ⟨w9, hw9⟩ : ∃ w9, w9 = put6 w8 w.heap.size 0 (.int .i64 d.sort) (.bool d.on) (.int .i64 d.n) (.string ⟨d.text.toArray⟩) (.slice d.a d.list.length d.c) (.slice d.ka d.keys.length d.kc) := ⟨_, rfl⟩
  rw [← hw9] at hst hrp hkp hoth
  have HST := Lib.hid hst
  have HRP := Lib.hid hrp
  have HKP := Lib.hid hkp
  have HO := Lib.hid hoth
  unfold put6 at hw9
  try simp only [Nat.zero_add] at hw9
  rw [← hw9]
  clear hst hrp hkp hoth hw9 c0 c1 c2 c3 c4 c5 f0 f1 f2 f3 f4 f5
  go_wp2_with fail
  refine (skip_any b t o' w9 HRP.out).mono ?_
  rintro e w10 ⟨rfl, hk10, hr10⟩
  have hst10 := hk10.blk HST.out hg
  have HK10 := Lib.hid (HKP.out.trans hk10)
  have HR10 := Lib.hid hr10
  have HA : Hid (ValAt w8 (fun k => w.heap.size + 1 ≤ k) d → ValAt w10 (fun k => w.heap.size + 1 ≤ k) d) := Lib.hid fun ha =>
    (ha.congr (w' := w9) fun k hk _ => HO.out k hk).congr (w' := w10) fun k hk hl => hk10.block hl (by omega)
  have HST10 := Lib.hid hst10
  have c0 := hst10.cell 0
  have c1 := hst10.cell 1
  have c2 := hst10.cell 2
  have c3 := hst10.cell 3
  have c4 := hst10.cell 4
  have c5 := hst10.cell 5
  have f0 := hst10.free 0
  have f1 := hst10.free 1
  have f2 := hst10.free 2
  have f3 := hst10.free 3
  have f4 := hst10.free 4
  have f5 := hst10.free 5
  simp only [List.getElem?_toArray, List.getElem?_cons_zero, List.getElem?_cons_succ] at c0 c1 c2 c3 c4 c5
  clear hk10 hr10 hst10
  go_wp2
  have hfin := store6_val d HST10.out
  have hrf : RdAt (put6 w10 w.heap.size 0 (.int .i64 d.sort) (.bool d.on) (.int .i64 d.n) (.string ⟨d.text.toArray⟩) (.slice d.a d.list.length d.c) (.slice d.ka d.keys.length d.kc)) b (skip t) o' := (put6_other (by omega)).trans HR10.out
  have hkf : Keep b w (put6 w10 w.heap.size 0 (.int .i64 d.sort) (.bool d.on) (.int .i64 d.n) (.string ⟨d.text.toArray⟩) (.slice d.a d.list.length d.c) (.slice d.ka d.keys.length d.kc)) := HK10.out.put6 (Nat.le_refl _) _ _ _ _ _ _
  have haf : ValAt w8 (fun k => w.heap.size + 1 ≤ k) d → ValAt (put6 w10 w.heap.size 0 (.int .i64 d.sort) (.bool d.on) (.int .i64 d.n) (.string ⟨d.text.toArray⟩) (.slice d.a d.list.length d.c) (.slice d.ka d.keys.length d.kc)) (fun k => w.heap.size ≤ k) d := fun ha =>
    ((HA.out ha).congr (w' := (put6 w10 w.heap.size 0 (.int .i64 d.sort) (.bool d.on) (.int .i64 d.n) (.string ⟨d.text.toArray⟩) (.slice d.a d.list.length d.c) (.slice d.ka d.keys.length d.kc))) fun k hk _ => put6_other (by omega)).mono fun k hk _ => by omega
  have hend := vaE_fin HVB.out hkf hrf haf HD.out
  obtain ⟨W, hW⟩ : ∃ W, W = (put6 w10 w.heap.size 0 (.int .i64 d.sort) (.bool d.on) (.int .i64 d.n) (.string ⟨d.text.toArray⟩) (.slice d.a d.list.length d.c) (.slice d.ka d.keys.length d.kc)) := ⟨_, rfl⟩
  rw [← hW] at hfin hend
  unfold put6 at hW
  try simp only [Nat.zero_add] at hW
  rw [← hW]
  have d0 := hfin.cell 0
  have d1 := hfin.cell 1
  have d2 := hfin.cell 2
  have d3 := hfin.cell 3
  have d4 := hfin.cell 4
  have d5 := hfin.cell 5
  simp only [List.getElem?_toArray, List.getElem?_cons_zero, List.getElem?_cons_succ] at d0 d1 d2 d3 d4 d5
  exact bodyPost_ret (v := .tuple #[.agg #[.int .i64 d.sort, .bool d.on, .int .i64 d.n, .string ⟨d.text.toArray⟩, .slice d.a d.list.length d.c, .slice d.ka d.keys.length d.kc], .int .i64 j]) (by simp [results, Tryz.results30, go_sem, d0, d1, d2, d3, d4, d5]) rfl hend

set_option maxHeartbeats 4000000 in
theorem value_plain (b : Nat) (s : Nm) (o : Nat) (w : World) (h : RdAt w b s o) (res : Res) (hne : res ≠ .out) (t1 : takes [123] (skip s) = none) (t2 : takes [91] (skip s) = none) (hc : ∀ w', Keep b w w' → RdAt w' b (skip s) o → Calls Tryz.prog 46 #[.pointer (some ⟨b, 0, none⟩)] w' (VaE w' b o res)) :
    Calls Tryz.prog 30 #[.pointer (some ⟨b, 0, none⟩)] w (VaE w b o (finL res)) := by
  have hbl := Blk.lt h
  have hg : w.heap.size ≠ b := by omega
  have hz0 : Blk (w.alloc (.cells zeroV 34)) w.heap.size zeroV 34 := Blk.new rfl
  have h1 := skip_any b s o (w.alloc (.cells zeroV 34)) (h.ext (below_a1 _ _))
  have H1 := Lib.hid h1
  have HZ0 := Lib.hid hz0
  have Hne := Lib.hid hne
  unfold zeroV at H1
  have HC := Lib.hid hc
  have T1 := Lib.hid t1
  have T2 := Lib.hid t2
  clear hc t1 t2
  clear h1 h hz0 hne
  go_enter Tryz.func30, Tryz.ntmps30
  go_wp2_with fail
  refine H1.out.mono ?_
  rintro e w1 ⟨rfl, hk1, hr1⟩
  have HZ1 := Lib.hid (hk1.blk HZ0.out hg)
  have HK1 := Lib.hid hk1.since
  have HR1 := Lib.hid hr1
  have hs1 : w.heap.size + 1 ≤ w1.heap.size := by have := hk1.size; simpa using this
  clear hk1 hr1 H1 HZ0
  go_wp2_with fail
  refine (takes_no b (skip s) [123] o w1 HR1.out T1.out).mono ?_
  rintro e w2 ⟨rfl, hk, hr⟩
  have HZ2 := Lib.hid (hk.blk HZ1.out hg)
  have HK2 := Lib.hid (HK1.out.trans hk)
  have HR2 := Lib.hid hr
  have hs2 : w.heap.size + 1 ≤ w2.heap.size := Nat.le_trans hs1 hk.size
  clear hk hr
  go_wp2_with fail
  refine (takes_no b (skip s) [91] o w2 HR2.out T2.out).mono ?_
  rintro e w3 ⟨rfl, hk, hr⟩
  have HZ3 := Lib.hid (hk.blk HZ2.out hg)
  have HK3 := Lib.hid (HK2.out.trans hk)
  have HR3 := Lib.hid hr
  have hs3 : w.heap.size + 1 ≤ w3.heap.size := Nat.le_trans hs2 hk.size
  clear hk hr
  go_wp2_with fail
  refine (HC.out w3 HK3.out HR3.out).mono ?_
  intro e w8 hva
  obtain ⟨d, j, t, o', rfl, hvb⟩ := vbE_of hva Hne.out
  have hk8 := hvb.1
  have hr8 := hvb.2.1
  have hz8 := hk8.blk HZ3.out hg
  have HVB := Lib.hid hvb
  have HD : Hid (∀ v t', res = .ok v t' → ValAt w8 (fun k => w.heap.size + 1 ≤ k) d) := Lib.hid fun v t' he => by
    have h := hvb.2.2.2.2
    rw [he] at h
    exact h.2.2.1.mono fun k hk _ => by omega
  have HK8 := Lib.hid (HK3.out.trans hk8)
  have HR8 := Lib.hid hr8
  have HZ8 := Lib.hid hz8
  unfold zeroV at hz8
  have c0 := hz8.cell 0
  have c1 := hz8.cell 1
  have c2 := hz8.cell 2
  have c3 := hz8.cell 3
  have c4 := hz8.cell 4
  have c5 := hz8.cell 5
  have f0 := hz8.free 0
  have f1 := hz8.free 1
  have f2 := hz8.free 2
  have f3 := hz8.free 3
  have f4 := hz8.free 4
  have f5 := hz8.free 5
  simp only [List.getElem?_toArray, List.getElem?_cons_zero, List.getElem?_cons_succ] at c0 c1 c2 c3 c4 c5
  clear hva hvb hk8 hr8 hz8
  rw [VD.val_eq']
  go_upto_region 7 with (fail)
  have hst := store6_val d HZ8.out
  have hrp : RdAt (put6 w8 w.heap.size 0 (.int .i64 d.sort) (.bool d.on) (.int .i64 d.n) (.string ⟨d.text.toArray⟩) (.slice d.a d.list.length d.c) (.slice d.ka d.keys.length d.kc)) b t o' := (put6_other (by omega)).trans HR8.out
  have hkp : Keep b w (put6 w8 w.heap.size 0 (.int .i64 d.sort) (.bool d.on) (.int .i64 d.n) (.string ⟨d.text.toArray⟩) (.slice d.a d.list.length d.c) (.slice d.ka d.keys.length d.kc)) := HK8.out.put6 (Nat.le_refl _) _ _ _ _ _ _
  have hoth : ∀ j, w.heap.size + 1 ≤ j → (put6 w8 w.heap.size 0 (.int .i64 d.sort) (.bool d.on) (.int .i64 d.n) (.string ⟨d.text.toArray⟩) (.slice d.a d.list.length d.c) (.slice d.ka d.keys.length d.kc)).heap[j]? = w8.heap[j]? := fun j hj => put6_other (by omega)
  obtain ⟨w9, hw9⟩ : ∃ w9, w9 = put6 w8 w.heap.size 0 (.int .i64 d.sort) (.bool d.on) (.int .i64 d.n) (.string ⟨d.text.toArray⟩) (.slice d.a d.list.length d.c) (.slice d.ka d.keys.length d.kc) := ⟨_, rfl⟩
  rw [← hw9] at hst hrp hkp hoth
  have HST := Lib.hid hst
  have HRP := Lib.hid hrp
  have HKP := Lib.hid hkp
  have HO := Lib.hid hoth
  unfold put6 at hw9
  try simp only [Nat.zero_add] at hw9
  rw [← hw9]
  clear hst hrp hkp hoth hw9 c0 c1 c2 c3 c4 c5 f0 f1 f2 f3 f4 f5
  go_wp2_with fail
  refine (skip_any b t o' w9 HRP.out).mono ?_
  rintro e w10 ⟨rfl, hk10, hr10⟩
  have hst10 := hk10.blk HST.out hg
  have HK10 := Lib.hid (HKP.out.trans hk10)
  have HR10 := Lib.hid hr10
  have HA : Hid (ValAt w8 (fun k => w.heap.size + 1 ≤ k) d → ValAt w10 (fun k => w.heap.size + 1 ≤ k) d) := Lib.hid fun ha =>
    (ha.congr (w' := w9) fun k hk _ => HO.out k hk).congr (w' := w10) fun k hk hl => hk10.block hl (by omega)
  have HST10 := Lib.hid hst10
  have c0 := hst10.cell 0
  have c1 := hst10.cell 1
  have c2 := hst10.cell 2
  have c3 := hst10.cell 3
  have c4 := hst10.cell 4
  have c5 := hst10.cell 5
  have f0 := hst10.free 0
  have f1 := hst10.free 1
  have f2 := hst10.free 2
  have f3 := hst10.free 3
  have f4 := hst10.free 4
  have f5 := hst10.free 5
  simp only [List.getElem?_toArray, List.getElem?_cons_zero, List.getElem?_cons_succ] at c0 c1 c2 c3 c4 c5
  clear hk10 hr10 hst10
  go_wp2
  have hfin := store6_val d HST10.out
  have hrf : RdAt (put6 w10 w.heap.size 0 (.int .i64 d.sort) (.bool d.on) (.int .i64 d.n) (.string ⟨d.text.toArray⟩) (.slice d.a d.list.length d.c) (.slice d.ka d.keys.length d.kc)) b (skip t) o' := (put6_other (by omega)).trans HR10.out
  have hkf : Keep b w (put6 w10 w.heap.size 0 (.int .i64 d.sort) (.bool d.on) (.int .i64 d.n) (.string ⟨d.text.toArray⟩) (.slice d.a d.list.length d.c) (.slice d.ka d.keys.length d.kc)) := HK10.out.put6 (Nat.le_refl _) _ _ _ _ _ _
  have haf : ValAt w8 (fun k => w.heap.size + 1 ≤ k) d → ValAt (put6 w10 w.heap.size 0 (.int .i64 d.sort) (.bool d.on) (.int .i64 d.n) (.string ⟨d.text.toArray⟩) (.slice d.a d.list.length d.c) (.slice d.ka d.keys.length d.kc)) (fun k => w.heap.size ≤ k) d := fun ha =>
    ((HA.out ha).congr (w' := (put6 w10 w.heap.size 0 (.int .i64 d.sort) (.bool d.on) (.int .i64 d.n) (.string ⟨d.text.toArray⟩) (.slice d.a d.list.length d.c) (.slice d.ka d.keys.length d.kc))) fun k hk _ => put6_other (by omega)).mono fun k hk _ => by omega
  have hend := vaE_fin HVB.out hkf hrf haf HD.out
  obtain ⟨W, hW⟩ : ∃ W, W = (put6 w10 w.heap.size 0 (.int .i64 d.sort) (.bool d.on) (.int .i64 d.n) (.string ⟨d.text.toArray⟩) (.slice d.a d.list.length d.c) (.slice d.ka d.keys.length d.kc)) := ⟨_, rfl⟩
  rw [← hW] at hfin hend
  unfold put6 at hW
  try simp only [Nat.zero_add] at hW
  rw [← hW]
  have d0 := hfin.cell 0
  have d1 := hfin.cell 1
  have d2 := hfin.cell 2
  have d3 := hfin.cell 3
  have d4 := hfin.cell 4
  have d5 := hfin.cell 5
  simp only [List.getElem?_toArray, List.getElem?_cons_zero, List.getElem?_cons_succ] at d0 d1 d2 d3 d4 d5
  exact bodyPost_ret (v := .tuple #[.agg #[.int .i64 d.sort, .bool d.on, .int .i64 d.n, .string ⟨d.text.toArray⟩, .slice d.a d.list.length d.c, .slice d.ka d.keys.length d.kc], .int .i64 j]) (by simp [results, Tryz.results30, go_sem, d0, d1, d2, d3, d4, d5]) rfl hend

theorem value_any : ∀ f : Nat, ∀ (b : Nat) (s : Nm) (o : Nat) (w : World), Glob w → 8 ≤ b → RdAt w b s o → s.length ≤ 1048576 → o ≤ 20 → valL f o s ≠ .out → Calls Tryz.prog 30 #[.pointer (some ⟨b, 0, none⟩)] w (VaE w b o (valL f o s)) := by
  intro f
  induction f using Nat.strongRecOn with
  | ind f IH =>
  intro b s o w hG hb8 h hs ho hne
  cases f with
  | zero => exact absurd (by rw [valL]) hne
  | succ f =>
    rw [valL_fin] at hne ⊢
    have hne' : headL f o (skip s) ≠ .out := fun he => hne (by rw [he]; rfl)
    have hsk := skip_len s
    cases t1 : takes [123] (skip s) with
    | some r =>
      have e : headL f o (skip s) = partsL f o 5 125 r := by unfold headL; rw [t1]
      rw [e] at hne' ⊢
      refine value_rec b s o w h _ hne' r t1 fun w' hk hr => ?_
      have hl := takes_len t1
      cases f with
      | zero => exact absurd (by rw [partsL]) hne'
      | succ f => exact parts_any f (Lib.hid fun g hg => IH g (by omega)) b r o 5 125 w' (hk.glob hG hb8) hb8 hr (by simp only [List.length_singleton] at hl; omega) ho hne'
    | none =>
      cases t2 : takes [91] (skip s) with
      | some r =>
        have e : headL f o (skip s) = partsL f o 4 93 r := by unfold headL; rw [t1]; simp only; rw [t2]
        rw [e] at hne' ⊢
        refine value_list b s o w h _ hne' r t1 t2 fun w' hk hr => ?_
        have hl := takes_len t2
        cases f with
        | zero => exact absurd (by rw [partsL]) hne'
        | succ f => exact parts_any f (Lib.hid fun g hg => IH g (by omega)) b r o 4 93 w' (hk.glob hG hb8) hb8 hr (by simp only [List.length_singleton] at hl; omega) ho hne'
      | none =>
        have e : headL f o (skip s) = plainL (skip s) := by unfold headL; rw [t1]; simp only; rw [t2]
        rw [e] at hne' ⊢
        exact value_plain b s o w h _ hne' t1 t2 fun w' hk hr => plain_any b (skip s) o w' (hk.glob hG hb8) hb8 hr (by omega)
end Go.Proofs.YtahiopjplfnlmaaGreatDoor
