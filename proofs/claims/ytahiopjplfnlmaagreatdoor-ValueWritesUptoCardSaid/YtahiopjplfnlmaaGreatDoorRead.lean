/- Read: walked. -/
import Derived.Test.YtahiopjplfnlmaaGreatDoorRdr
import Derived.Test.YtahiopjplfnlmaaGreatDoorValid
namespace Go.Proofs.YtahiopjplfnlmaaGreatDoor
open Go Go.RowKit

/-- what Read answers -/
def ReadE (w : World) (res : Res) (e : Ending) (w' : World) : Prop :=
  Below w.heap.size w w' ∧ match res with
  | .out => False
  | .err k => (k = 11 ∨ k = 21 ∨ k = 22) ∧ e = .returned (.tuple #[(VD.mk 0 false 0 [] none 0 [] none 0 []).val, .int .i64 k])
  | .ok v _ => ∃ d, e = .returned (.tuple #[d.val, .int .i64 0]) ∧ d.v = v ∧ ValAt w' (fun k => w.heap.size ≤ k) d

theorem utf_any (s : Nm) (w : World) (hG : Glob w) (hs : s.length ≤ 9223372036854775807) :
    Calls Tryz.prog 29 #[.string ⟨s.toArray⟩] w fun e w' => e = .returned (.bool (Lib.validD s)) ∧ Below w.heap.size w w' := by
  have h1 := Any.utf8_ValidString Tryz.laysValid (⟨s.toArray⟩ : ByteArray) w (by rw [size_nm]; exact hs) hG.utf
  have h1 : Calls Tryz.prog 42 #[.string ⟨s.toArray⟩] w fun e w' => e = .returned (.bool (Lib.validD s)) ∧ Below w.heap.size w w' := h1
  go_enter Tryz.func29, Tryz.ntmps29
  go_wp2_with fail
  refine h1.mono ?_
  rintro e w1 ⟨rfl, hb⟩
  go_wp2
  exact bodyPost_ret (by simp [results, Tryz.results29, go_sem]) rfl ⟨rfl, hb⟩

/-- the cells of a value's box -/
theorem Blk.six {w : World} {g : Nat} {d : VD} (h : Blk w g #[.int .i64 d.sort, .bool d.on, .int .i64 d.n, .string ⟨d.text.toArray⟩, .slice d.a d.list.length d.c, .slice d.ka d.keys.length d.kc] 34) : Six w g d := by
  have d0 := h.cell 0
  have d1 := h.cell 1
  have d2 := h.cell 2
  have d3 := h.cell 3
  have d4 := h.cell 4
  have d5 := h.cell 5
  simp only [List.getElem?_toArray, List.getElem?_cons_zero, List.getElem?_cons_succ] at d0 d1 d2 d3 d4 d5
  exact ⟨d0, d1, d2, d3, d4, d5⟩
theorem read_end {W : World} {tm : Array Value} {R : Ending → World → Prop} {g : Nat} {u0 u1 u2 u3 u4 u5 : Value} {k : Int} (h2 : tm.getD 2 undef = .pointer (some ⟨g, 0, none⟩)) (h3 : tm.getD 3 undef = .int .i64 k) (hB : Blk W g #[u0, u1, u2, u3, u4, u5] 34)
    (hR : R (.returned (.tuple #[.agg #[u0, u1, u2, u3, u4, u5], .int .i64 k])) W) : bodyPost Tryz.prog Tryz.f19 R .ret { tmps := tm, defers := [] } W := by
  have d0 := hB.cell 0
  have d1 := hB.cell 1
  have d2 := hB.cell 2
  have d3 := hB.cell 3
  have d4 := hB.cell 4
  have d5 := hB.cell 5
  simp only [List.getElem?_toArray, List.getElem?_cons_zero, List.getElem?_cons_succ] at d0 d1 d2 d3 d4 d5
  rw [Array.getD_eq_getD_getElem?] at h2 h3
  refine bodyPost_ret (v := .tuple #[.agg #[u0, u1, u2, u3, u4, u5], .int .i64 k]) ?_ rfl hR
  simp [results, Tryz.results19, go_sem, h2, h3, d0, d1, d2, d3, d4, d5]
set_option maxHeartbeats 4000000 in
theorem read_bad (s : Nm) (w : World) (hG : Glob w) (hs : s.length ≤ 1048576) (hv : Lib.validD s = false) : Calls Tryz.prog 19 #[.string ⟨s.toArray⟩] w (ReadE w (.err 11)) := by
  have hG0 := hG.ext (below_a1 w (.cells zeroV 34))
  have h1 := utf_any s (w.alloc (.cells zeroV 34)) hG0 (by omega)
  have hz0 : Blk (w.alloc (.cells zeroV 34)) w.heap.size zeroV 34 := Blk.new rfl
  have hb0 := below_a1 w (.cells zeroV 34)
  rw [hv] at h1
  have H1 := Lib.hid h1
  have HZ0 := Lib.hid hz0
  unfold zeroV at H1
  clear h1 hG hG0 hv hz0
  go_enter Tryz.func19, Tryz.ntmps19
  go_wp2_with fail
  refine H1.out.mono ?_
  rintro e w1 ⟨rfl, hb1⟩
  have hz1 := HZ0.out.ext hb1
  have hb := hb0.trans (hb1.mono (by simp))
  have c0 := hz1.cell 0
  have c1 := hz1.cell 1
  have c2 := hz1.cell 2
  have c3 := hz1.cell 3
  have c4 := hz1.cell 4
  have c5 := hz1.cell 5
  have f0 := hz1.free 0
  have f1 := hz1.free 1
  have f2 := hz1.free 2
  have f3 := hz1.free 3
  have f4 := hz1.free 4
  have f5 := hz1.free 5
  unfold zeroV at c0 c1 c2 c3 c4 c5
  simp only [List.getElem?_toArray, List.getElem?_cons_zero, List.getElem?_cons_succ] at c0 c1 c2 c3 c4 c5
  have HZ1 := Lib.hid hz1
  have HB := Lib.hid hb
  clear hz1 hb hb1
  go_wp2
  refine read_end (g := w.heap.size) rfl rfl (store6 HZ1.out) ?_
  exact ⟨put6_below (o := 0) HB.out (Nat.le_refl _), .inl rfl, rfl⟩

set_option maxHeartbeats 4000000 in
theorem read_no (s : Nm) (w : World) (hG : Glob w) (hs : s.length ≤ 1048576) (hv : Lib.validD s = true) (k : Int) (he : valL (steps s) 0 s = .err k) (hk : k = 21 ∨ k = 22) : Calls Tryz.prog 19 #[.string ⟨s.toArray⟩] w (ReadE w (.err k)) := by
  have hb0 := below_a1 w (.cells zeroV 34)
  have hG0 := hG.ext hb0
  have h1 := utf_any s (w.alloc (.cells zeroV 34)) hG0 (by omega)
  have hz0 : Blk (w.alloc (.cells zeroV 34)) w.heap.size zeroV 34 := Blk.new rfl
  have h8 := hG.size
  rw [hv] at h1
  have H1 := Lib.hid h1
  have HZ0 := Lib.hid hz0
  have HG0 := Lib.hid hG0
  have HE := Lib.hid he
  unfold zeroV at H1
  clear h1 hG hG0 hv hz0 he
  go_enter Tryz.func19, Tryz.ntmps19
  go_wp2_with fail
  refine H1.out.mono ?_
  rintro e w1 ⟨rfl, hb1⟩
  have hz1 := HZ0.out.ext hb1
  have hb := hb0.trans (hb1.mono (by simp))
  have HZ1 := Lib.hid hz1
  have HB := Lib.hid hb
  have HG1 := Lib.hid (HG0.out.ext hb1)
  have hsz : w.heap.size + 1 ≤ w1.heap.size := by have := hb1.size; simpa using this
  clear hz1 hb hb1
  go_wp2_with fail
  have hrd : RdAt (w1.alloc (.cells #[.string ⟨s.toArray⟩, .int .i64 0] 62)) w1.heap.size s ((0 : Nat) : Int) := Blk.new rfl
  refine (value_any (steps s) w1.heap.size s 0 _ (HG1.out.ext (below_a1 _ _)) (by omega) hrd hs (by omega) (by rw [HE.out]; simp)).mono ?_
  intro e w8 hva
  rw [HE.out] at hva
  obtain ⟨d, t, o', rfl, hk8, -, -, -⟩ := hva
  have hk0 : k ≠ 0 := by omega
  have hz8 := hk8.blk (HZ1.out.alloc _) (by omega)
  have hb8 := hk8.below (HB.out.alloc (by omega) _) (by omega) (by simp; omega)
  have hs8 : w.heap.size + 1 ≤ w8.heap.size := by have := hk8.size; simp at this; omega
  have HB8 := Lib.hid hb8
  have HZ8 := Lib.hid hz8
  clear hk8 hb8 hz8
  rw [VD.val_eq']
  go_upto_region 5 with (fail)
  obtain ⟨W9, hW9⟩ : ∃ W9, W9 = w8.alloc (.cells #[.int .i64 d.sort, .bool d.on, .int .i64 d.n, .string ⟨d.text.toArray⟩, .slice d.a d.list.length d.c, .slice d.ka d.keys.length d.kc] 34) := ⟨_, rfl⟩
  rw [← hW9]
  have hz9 : Blk W9 w.heap.size zeroV 34 := by rw [hW9]; exact HZ8.out.alloc _
  have hn9 : Blk W9 w8.heap.size #[.int .i64 d.sort, .bool d.on, .int .i64 d.n, .string ⟨d.text.toArray⟩, .slice d.a d.list.length d.c, .slice d.ka d.keys.length d.kc] 34 := by rw [hW9]; exact Blk.new rfl
  have hb9 : Below w.heap.size w W9 := by rw [hW9]; exact HB8.out.alloc (by omega) _
  have hW9e := Lib.hid hW9
  have HZ9 := Lib.hid hz9
  have HB9 := Lib.hid hb9
  clear hW9 hb9
  have c0 := hz9.cell 0
  have c1 := hz9.cell 1
  have c2 := hz9.cell 2
  have c3 := hz9.cell 3
  have c4 := hz9.cell 4
  have c5 := hz9.cell 5
  have f0 := hz9.free 0
  have f1 := hz9.free 1
  have f2 := hz9.free 2
  have f3 := hz9.free 3
  have f4 := hz9.free 4
  have f5 := hz9.free 5
  unfold zeroV at c0 c1 c2 c3 c4 c5
  simp only [List.getElem?_toArray, List.getElem?_cons_zero, List.getElem?_cons_succ] at c0 c1 c2 c3 c4 c5
  clear hz9
  go_wp2
  refine read_end (g := w.heap.size) rfl rfl (store6 HZ9.out) ?_
  exact ⟨put6_below (o := 0) HB9.out (Nat.le_refl _), .inr hk, rfl⟩

set_option maxHeartbeats 4000000 in
theorem read_left (s : Nm) (w : World) (hG : Glob w) (hs : s.length ≤ 1048576) (hv : Lib.validD s = true) (v : V) (c : UInt8) (r : Nm) (he : valL (steps s) 0 s = .ok v (c :: r)) : Calls Tryz.prog 19 #[.string ⟨s.toArray⟩] w (ReadE w (.err 21)) := by
  have hb0 := below_a1 w (.cells zeroV 34)
  have hG0 := hG.ext hb0
  have h1 := utf_any s (w.alloc (.cells zeroV 34)) hG0 (by omega)
  have hz0 : Blk (w.alloc (.cells zeroV 34)) w.heap.size zeroV 34 := Blk.new rfl
  have h8 := hG.size
  rw [hv] at h1
  have H1 := Lib.hid h1
  have HZ0 := Lib.hid hz0
  have HG0 := Lib.hid hG0
  have HE := Lib.hid he
  unfold zeroV at H1
  clear h1 hG hG0 hv hz0 he
  go_enter Tryz.func19, Tryz.ntmps19
  go_wp2_with fail
  refine H1.out.mono ?_
  rintro e w1 ⟨rfl, hb1⟩
  have hz1 := HZ0.out.ext hb1
  have hb := hb0.trans (hb1.mono (by simp))
  have HZ1 := Lib.hid hz1
  have HB := Lib.hid hb
  have HG1 := Lib.hid (HG0.out.ext hb1)
  have hsz : w.heap.size + 1 ≤ w1.heap.size := by have := hb1.size; simpa using this
  clear hz1 hb hb1
  go_wp2_with fail
  have hrd : RdAt (w1.alloc (.cells #[.string ⟨s.toArray⟩, .int .i64 0] 62)) w1.heap.size s ((0 : Nat) : Int) := Blk.new rfl
  refine (value_any (steps s) w1.heap.size s 0 _ (HG1.out.ext (below_a1 _ _)) (by omega) hrd hs (by omega) (by rw [HE.out]; simp)).mono ?_
  intro e w8 hva
  rw [HE.out] at hva
  obtain ⟨d, rfl, hdv, hva8, hk8, hr8⟩ := hva
  have hz8 := hk8.blk (HZ1.out.alloc _) (by omega)
  have hb8 := hk8.below (HB.out.alloc (by omega) _) (by omega) (by simp; omega)
  have hs8 : w.heap.size + 1 ≤ w8.heap.size := by have := hk8.size; simp at this; omega
  have HB8 := Lib.hid hb8
  have HZ8 := Lib.hid hz8
  have HV8 := Lib.hid hva8
  have HR8 := Lib.hid hr8
  have HDV := Lib.hid hdv
  clear hk8 hb8 hz8 hva8 hr8 hdv
  rw [VD.val_eq']
  go_upto_region 5 with (fail)
  obtain ⟨W9, hW9⟩ : ∃ W9, W9 = w8.alloc (.cells #[.int .i64 d.sort, .bool d.on, .int .i64 d.n, .string ⟨d.text.toArray⟩, .slice d.a d.list.length d.c, .slice d.ka d.keys.length d.kc] 34) := ⟨_, rfl⟩
  rw [← hW9]
  have hz9 : Blk W9 w.heap.size zeroV 34 := by rw [hW9]; exact HZ8.out.alloc _
  have hn9 : Blk W9 w8.heap.size #[.int .i64 d.sort, .bool d.on, .int .i64 d.n, .string ⟨d.text.toArray⟩, .slice d.a d.list.length d.c, .slice d.ka d.keys.length d.kc] 34 := by rw [hW9]; exact Blk.new rfl
  have hb9 : Below w.heap.size w W9 := by rw [hW9]; exact HB8.out.alloc (by omega) _
  have hW9e := Lib.hid hW9
  have HZ9 := Lib.hid hz9
  have HB9 := Lib.hid hb9
  clear hW9 hb9
  have hr9 : RdAt W9 w1.heap.size (c :: r) (0 : Nat) := by rw [hW9e.out]; exact HR8.out.ext (below_a1 _ _)
  have r0 := hr9.c0
  skip
  have c0 := hz9.cell 0
  have c1 := hz9.cell 1
  have c2 := hz9.cell 2
  have c3 := hz9.cell 3
  have c4 := hz9.cell 4
  have c5 := hz9.cell 5
  have f0 := hz9.free 0
  have f1 := hz9.free 1
  have f2 := hz9.free 2
  have f3 := hz9.free 3
  have f4 := hz9.free 4
  have f5 := hz9.free 5
  unfold zeroV at c0 c1 c2 c3 c4 c5
  simp only [List.getElem?_toArray, List.getElem?_cons_zero, List.getElem?_cons_succ] at c0 c1 c2 c3 c4 c5
  clear hz9 hr9
  go_wp2
  refine read_end (g := w.heap.size) rfl rfl (store6 HZ9.out) ?_
  exact ⟨put6_below (o := 0) HB9.out (Nat.le_refl _), .inr (.inl rfl), rfl⟩

set_option maxHeartbeats 4000000 in
theorem read_ok (s : Nm) (w : World) (hG : Glob w) (hs : s.length ≤ 1048576) (hv : Lib.validD s = true) (v : V) (he : valL (steps s) 0 s = .ok v []) : Calls Tryz.prog 19 #[.string ⟨s.toArray⟩] w (ReadE w (.ok v [])) := by
  have hb0 := below_a1 w (.cells zeroV 34)
  have hG0 := hG.ext hb0
  have h1 := utf_any s (w.alloc (.cells zeroV 34)) hG0 (by omega)
  have hz0 : Blk (w.alloc (.cells zeroV 34)) w.heap.size zeroV 34 := Blk.new rfl
  have h8 := hG.size
  rw [hv] at h1
  have H1 := Lib.hid h1
  have HZ0 := Lib.hid hz0
  have HG0 := Lib.hid hG0
  have HE := Lib.hid he
  unfold zeroV at H1
  clear h1 hG hG0 hv hz0 he
  go_enter Tryz.func19, Tryz.ntmps19
  go_wp2_with fail
  refine H1.out.mono ?_
  rintro e w1 ⟨rfl, hb1⟩
  have hz1 := HZ0.out.ext hb1
  have hb := hb0.trans (hb1.mono (by simp))
  have HZ1 := Lib.hid hz1
  have HB := Lib.hid hb
  have HG1 := Lib.hid (HG0.out.ext hb1)
  have hsz : w.heap.size + 1 ≤ w1.heap.size := by have := hb1.size; simpa using this
  clear hz1 hb hb1
  go_wp2_with fail
  have hrd : RdAt (w1.alloc (.cells #[.string ⟨s.toArray⟩, .int .i64 0] 62)) w1.heap.size s ((0 : Nat) : Int) := Blk.new rfl
  refine (value_any (steps s) w1.heap.size s 0 _ (HG1.out.ext (below_a1 _ _)) (by omega) hrd hs (by omega) (by rw [HE.out]; simp)).mono ?_
  intro e w8 hva
  rw [HE.out] at hva
  obtain ⟨d, rfl, hdv, hva8, hk8, hr8⟩ := hva
  have hz8 := hk8.blk (HZ1.out.alloc _) (by omega)
  have hb8 := hk8.below (HB.out.alloc (by omega) _) (by omega) (by simp; omega)
  have hs8 : w.heap.size + 1 ≤ w8.heap.size := by have := hk8.size; simp at this; omega
  have HB8 := Lib.hid hb8
  have HZ8 := Lib.hid hz8
  have HV8 := Lib.hid hva8
  have HR8 := Lib.hid hr8
  have HDV := Lib.hid hdv
  clear hk8 hb8 hz8 hva8 hr8 hdv
  rw [VD.val_eq']
  go_upto_region 5 with (fail)
  obtain ⟨W9, hW9⟩ : ∃ W9, W9 = w8.alloc (.cells #[.int .i64 d.sort, .bool d.on, .int .i64 d.n, .string ⟨d.text.toArray⟩, .slice d.a d.list.length d.c, .slice d.ka d.keys.length d.kc] 34) := ⟨_, rfl⟩
  rw [← hW9]
  have hz9 : Blk W9 w.heap.size zeroV 34 := by rw [hW9]; exact HZ8.out.alloc _
  have hn9 : Blk W9 w8.heap.size #[.int .i64 d.sort, .bool d.on, .int .i64 d.n, .string ⟨d.text.toArray⟩, .slice d.a d.list.length d.c, .slice d.ka d.keys.length d.kc] 34 := by rw [hW9]; exact Blk.new rfl
  have hb9 : Below w.heap.size w W9 := by rw [hW9]; exact HB8.out.alloc (by omega) _
  have hW9e := Lib.hid hW9
  have HZ9 := Lib.hid hz9
  have HB9 := Lib.hid hb9
  clear hW9 hb9
  have hr9 : RdAt W9 w1.heap.size [] (0 : Nat) := by rw [hW9e.out]; exact HR8.out.ext (below_a1 _ _)
  have r0 := hr9.c0
  skip
  have c0 := hz9.cell 0
  have c1 := hz9.cell 1
  have c2 := hz9.cell 2
  have c3 := hz9.cell 3
  have c4 := hz9.cell 4
  have c5 := hz9.cell 5
  have f0 := hz9.free 0
  have f1 := hz9.free 1
  have f2 := hz9.free 2
  have f3 := hz9.free 3
  have f4 := hz9.free 4
  have f5 := hz9.free 5
  unfold zeroV at c0 c1 c2 c3 c4 c5
  simp only [List.getElem?_toArray, List.getElem?_cons_zero, List.getElem?_cons_succ] at c0 c1 c2 c3 c4 c5
  obtain ⟨e0, e1, e2, e3, e4, e5⟩ := (Blk.six hn9)
  clear hz9 hr9 hn9
  go_wp2
  refine read_end (g := w.heap.size) rfl rfl (store6 HZ9.out) ?_
  rw [← VD.val_eq']
  refine ⟨put6_below (o := 0) HB9.out (Nat.le_refl _), d, rfl, HDV.out, ?_⟩
  have h9 : ValAt W9 (fun k => w.heap.size + 1 ≤ k) d := by
    rw [hW9e.out]
    exact (HV8.out.mono fun k hk _ => by simp at hk; omega).ext (below_a1 _ _)
  exact (h9.congr (w' := put6 W9 w.heap.size 0 (.int .i64 d.sort) (.bool d.on) (.int .i64 d.n) (.string ⟨d.text.toArray⟩) (.slice d.a d.list.length d.c) (.slice d.ka d.keys.length d.kc)) fun k hk _ => put6_other (by omega)).mono fun k hk _ => by omega

theorem read_any (s : Nm) (w : World) (hG : Glob w) (hs : s.length ≤ 1048576) : Calls Tryz.prog 19 #[.string ⟨s.toArray⟩] w (ReadE w (readL s)) := by
  cases hv : Lib.validD s with
  | false =>
    have hr : readL s = .err 11 := by unfold readL; rw [hv]; rfl
    rw [hr]; exact read_bad s w hG hs hv
  | true =>
    have hr : readL s = match valL (steps s) 0 s with | .ok v r => if r = [] then .ok v [] else .err 21 | e => e := by unfold readL; rw [hv]; rfl
    rw [hr]
    have hne := valL_steps 0 s
    have herr := fun k => (read_err (steps s)).1 0 s k
    cases he : valL (steps s) 0 s with
    | out => exact absurd he hne
    | err k => exact read_no s w hG hs hv k he (herr k he)
    | ok v r =>
      cases r with
      | nil => exact read_ok s w hG hs hv v he
      | cons c r => exact read_left s w hG hs hv v c r he
end Go.Proofs.YtahiopjplfnlmaaGreatDoor
