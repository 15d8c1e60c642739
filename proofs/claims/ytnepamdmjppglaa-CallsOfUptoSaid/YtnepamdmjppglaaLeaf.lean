/- parse.All and calls.Of at a part that has no kids, walked. -/
import Derived.Test.YtnepamdmjppglaaRef5
namespace Go.Proofs.Ytnepamdmjppglaa
open Go Go.RowKit Go.Shelf Go.Sort
attribute [local go_sem] Oper.semAt_some

def leafCells (kd tx : Nm) : List Value := [.string ⟨kd.toArray⟩, .string ⟨tx.toArray⟩, .int .i64 0, .int .i64 0, .slice none 0 0]
def leafV (kd tx : Nm) : Value := .agg #[.string ⟨kd.toArray⟩, .string ⟨tx.toArray⟩, .int .i64 0, .int .i64 0, .slice none 0 0]
theorem infoPart : (Try.prog.info? 24).map (fun i => (i.zero, i.size, i.bytes)) = some (some (.agg #[.string ByteArray.empty, .string ByteArray.empty, .int .i64 0, .int .i64 0, .slice none 0 0]), 5, 72) := by kernel_rfl
theorem sizePart : (Try.prog.info? 24).map (·.size) = some 5 := by kernel_rfl

/-- where no panic is let out -/
def NoP (Q : Exit → Act → World → Prop) : Exit → Act → World → Prop
  | .panic _, _, _ => False
  | .normal, a, w => Q .normal a w
  | .ret, a, w => Q .ret a w
  | .exit n, a, w => Q (.exit n) a w
  | .goto t, a, w => Q (.goto t) a w
  | .outgrown, a, w => Q .outgrown a w
theorem wp_noP {P : Program} {c : Code} {Q : Exit → Act → World → Prop} {a : Act} {w : World} (h : c.wp P (NoP Q) a w) : c.wp P Q a w :=
  Code.wp_mono (fun e a w h => by cases e <;> first | exact h | exact h.elim) h

theorem backward_nil (w : World) :
    Calls Try.prog 48 #[.slice none 0 0] w fun e w' => e = .returned (.func (.func 62) #[] #[.pointer (some ⟨w.heap.size, 0, none⟩)]) ∧ w' = w.alloc (.cells #[.slice none 0 0] 22) := by
  go_enter Try.func48, Try.ntmps48
  go_wp2
  go_ret
  exact ⟨rfl, rfl⟩
set_option maxRecDepth 20000 in
theorem backward_stops (Bs : Nat) (w : World) (hc : w.cell? ⟨Bs, 0, none⟩ = some (.slice none 0 0)) :
    SeqStopsK Fence.wide 8 Try.prog 62 #[.pointer (some ⟨Bs, 0, none⟩)] (fun _ : Empty => #[Value.int .i64 0, Value.int .i64 0]) (Below 0) (fun ys => ys = []) (fun _ => False) 0 w := fun l J Jx W hW _ _ hY h0 => by
  have hcW := below_ext hW hc
  clear hc hY
  refine callsIn_of_wp Try.func62 rfl trivial ?_ rfl
  simp only [Try.ntmps62, List.size_toArray, List.length_cons, List.length_nil, Nat.reduceAdd, Nat.reduceSub, Array.replicate_succ, Array.replicate_zero, List.push_toArray, List.append_toArray, List.nil_append, List.cons_append]
  gi_wp2
  gi_loopw [3] (fun i wr => i = .int .i64 (-1) ∧ J [] wr) (fun _ _ => 0)
  case atStart => exact ⟨rfl, h0⟩
  case round =>
    obtain ⟨rfl, hJs⟩ := hrel
    gi_wp2
    go_end0
    exact ⟨⟨_, rfl⟩, .inl ⟨_, rfl, hJs⟩⟩

set_option maxHeartbeats 2000000 in
set_option maxRecDepth 20000 in
theorem all_leaf (kd tx : Nm) (w : World) : Calls Try.prog 24 #[leafV kd tx] w (Ret w fun v w' => ∃ a c, v = .slice a 1 c ∧ Row w' 5 a 1 (leafCells kd tx)) := by
  unfold leafV
  refine (callsIn_wide (n := 9)).1 (callsIn_of_wp_marks Try.func24 rfl trivial ?_ rfl)
  simp only [Try.ntmps24, List.size_toArray, List.length_cons, List.length_nil, Nat.reduceAdd, Nat.reduceSub, Array.replicate_succ, Array.replicate_zero, List.push_toArray, List.append_toArray, List.nil_append, List.cons_append]
  refine wpIn_wide.2 (wp_noP ?_)
  go_wp2_with fail
  refine wp_loop_rounds 2 ?_
  rw [rounds_succ]
  go_wp2_with fail
  obtain ⟨w4, hw4⟩ : ∃ w4, w4 = (((w.alloc (.cells #[.string ⟨kd.toArray⟩, .string ⟨tx.toArray⟩, .int .i64 0, .int .i64 0, .slice none 0 0] 24)).alloc (.cells #[.string ⟨kd.toArray⟩, .string ⟨tx.toArray⟩, .int .i64 0, .int .i64 0, .slice none 0 0] 24)).alloc (.cells #[.slice (some ⟨w.heap.size + 1, 0, none⟩) 1 1] 22)).alloc (.cells #[.string ⟨kd.toArray⟩, .string ⟨tx.toArray⟩, .int .i64 0, .int .i64 0, .slice none 0 0] 24) := ⟨_, rfl⟩
  have hx4 : Blk w4 (w.heap.size + 1 + 1 + 1) #[.string ⟨kd.toArray⟩, .string ⟨tx.toArray⟩, .int .i64 0, .int .i64 0, .slice none 0 0] 24 := by rw [hw4]; exact Blk.new (by simp)
  have ht4 : Blk w4 (w.heap.size + 1 + 1) #[.slice (some ⟨w.heap.size + 1, 0, none⟩) 1 1] 22 := by rw [hw4]; exact (Blk.new (by simp)).alloc _
  have hb4 : Below w.heap.size w w4 := by rw [hw4]; exact (((below_a1 w _).alloc (by simp) _).alloc (by simp; omega) _).alloc (by simp; omega) _
  have hs4 : w4.heap.size = w.heap.size + 4 := by rw [hw4]; simp
  rw [← hw4]
  clear hw4
  obtain ⟨xb, hxb⟩ : ∃ xb, xb = w.heap.size + 1 + 1 + 1 := ⟨_, rfl⟩
  obtain ⟨tb, htb⟩ : ∃ tb, tb = w.heap.size + 1 + 1 := ⟨_, rfl⟩
  rw [← hxb] at hx4 ⊢
  rw [← htb] at ht4 ⊢
  have x0 : w4.cell? ⟨xb, 0, none⟩ = some (.string ⟨kd.toArray⟩) := hx4.cell 0
  have x1 : w4.cell? ⟨xb, 1, none⟩ = some (.string ⟨tx.toArray⟩) := hx4.cell 1
  have x2 : w4.cell? ⟨xb, 2, none⟩ = some (.int .i64 0) := hx4.cell 2
  have x3 : w4.cell? ⟨xb, 3, none⟩ = some (.int .i64 0) := hx4.cell 3
  have x4 : w4.cell? ⟨xb, 4, none⟩ = some (.slice none 0 0) := hx4.cell 4
  have t0 : w4.cell? ⟨tb, 0, none⟩ = some (.slice (some ⟨w.heap.size + 1, 0, none⟩) 1 1) := ht4.cell 0
  have tf : w4.frozen? ⟨tb, 0, none⟩ = false := ht4.free 0
  have HX4 := Lib.hid hx4
  have HT4 := Lib.hid ht4
  have HB4 := Lib.hid hb4
  have HS4 := Lib.hid (And.intro hs4 (And.intro hxb htb))
  have hsz4 : w.heap.size ≤ w4.heap.size := by omega
  clear hx4 ht4 hb4 hs4 hxb htb
  have hba := (below_a1 w4 (.cells #[.string ⟨kd.toArray⟩, .string ⟨tx.toArray⟩, .int .i64 0, .int .i64 0, .slice none 0 0] 24)).drew
  have u0 := below_ext hba x0
  have u1 := below_ext hba x1
  have u2 := below_ext hba x2
  have u3 := below_ext hba x3
  have u4 := below_ext hba x4
  have ut := below_ext hba t0
  clear hba
  refine wp_region_held_drew (S := fun w' => w'.cell? ⟨xb, 0, none⟩ = some (.string ⟨kd.toArray⟩) ∧ w'.cell? ⟨xb, 1, none⟩ = some (.string ⟨tx.toArray⟩) ∧ w'.cell? ⟨xb, 2, none⟩ = some (.int .i64 0) ∧ w'.cell? ⟨xb, 3, none⟩ = some (.int .i64 0) ∧ w'.cell? ⟨xb, 4, none⟩ = some (.slice none 0 0)) (by kernel_rfl) ?_ (fun hHeld => ?_)
  · exact ⟨x0, x1, x2, x3, x4⟩
  refine wpAnyH_take (i := 0) (oi := ⟨some 21, _, _, _, _, _⟩) (v := ?_) rfl (by kernel_rfl) (by kernel_rfl) (by kernel_rfl) (fun _ _ _ h => h) (Or.inl ⟨by rfl, ?_⟩) (by assumption) ?_; rotate_left; focus (intro w hSw; (try dsimp only at hSw); first | (go_simp; done) | (go_simp; with_reducible rfl))
  try simp only [Act.put]
  try simp only [List.setIfInBounds_toArray]
  try simp only [List.set_cons_succ, List.set_cons_zero]
  refine wpAnyH_take (i := 1) (oi := ⟨some 22, _, _, _, _, _⟩) (v := ?_) rfl (by kernel_rfl) (by kernel_rfl) (by kernel_rfl) (fun _ _ _ h => h) (Or.inl ⟨by rfl, ?_⟩) (by assumption) ?_; rotate_left; focus (intro w hSw; (try dsimp only at hSw); first | (go_simp; done) | (go_simp; with_reducible rfl))
  try simp only [Act.put]
  try simp only [List.setIfInBounds_toArray]
  try simp only [List.set_cons_succ, List.set_cons_zero]
  refine wpAnyH_take (i := 5) (oi := ⟨some 26, _, _, _, _, _⟩) (v := ?_) rfl (by kernel_rfl) (by kernel_rfl) (by kernel_rfl) (fun _ _ _ h => h) (Or.inl ⟨by rfl, ?_⟩) (by assumption) ?_; rotate_left; focus (intro w hSw; (try dsimp only at hSw); first | (go_simp; done) | (go_simp; with_reducible rfl))
  try simp only [Act.put]
  try simp only [List.setIfInBounds_toArray]
  try simp only [List.set_cons_succ, List.set_cons_zero]
  refine wpAnyH_ready (rs := [2, 4]) (by kernel_rfl) (by simp) ?_
  refine AllReadyH.cons (i := 2) (o := ⟨some 23, _, _, _, _, _⟩) rfl (fun K hK => ?_) ?_
  · go_simp
    refine hK.out _ _ ?_ (fun hHeld => ?_)
    · exact ⟨u0, u1, u2, u3, u4⟩
    try simp only [Act.put]
    try simp only [List.setIfInBounds_toArray]
    try simp only [List.set_cons_succ, List.set_cons_zero]
    refine wpAnyH_ready (rs := [3, 4]) (by kernel_rfl) (by simp) ?_
    refine AllReadyH.cons (i := 3) (o := ⟨some 24, _, _, _, _, _⟩) rfl (fun K hK => ?_) ?_
    · refine step_append_Own rfl (.tmp 21) (.tmp 23) 22 rfl w.heap.size 24 _ 5 72 Try.underlying22 infoPart rfl (by decide) none 0 0 _ (by simp [go_sem]) (Own.nil _ _ _ _) _ 1 1 (leafCells kd tx) (by simp [go_sem]; rfl) (by exact Row.new1 (by simp) rfl rfl) (by intro u hu; simp [leafCells] at hu; rcases hu with rfl | rfl | rfl | rfl | rfl <;> rfl) (by unfold maxLen; omega) (by omega) (by simp; omega) ?_
      intro a5 c5 w5 hown5 hg5 hbk5
      have hb5 : Below w4.heap.size w4 w5 := (below_a1 w4 (.cells #[.string ⟨kd.toArray⟩, .string ⟨tx.toArray⟩, .int .i64 0, .int .i64 0, .slice none 0 0] 24)).drew.grown hg5 (by simp) (fun j hj => by simp [rowOf] at hj)
      have hx5 := HX4.out.ext hb5
      have ht5 := HT4.out.ext hb5
      have y0 := below_ext hb5 x0
      have y1 := below_ext hb5 x1
      have y2 := below_ext hb5 x2
      have y3 := below_ext hb5 x3
      have y4 := below_ext hb5 x4
      have yt := below_ext hb5 t0
      have yf : w5.frozen? ⟨tb, 0, none⟩ = false := ht5.free 0
      have hne : xb ≠ tb := by have := HS4.out; omega
      have hx6 := hx5.other (p := ⟨tb, 0, none⟩) hne (.slice (some ⟨w.heap.size + 1, 0, none⟩) 0 1)
      have ht6 : Blk (w5.setCell ⟨tb, 0, none⟩ (.slice (some ⟨w.heap.size + 1, 0, none⟩) 0 1)) tb #[.slice (some ⟨w.heap.size + 1, 0, none⟩) 0 1] 22 := ht5.set 0 _
      have hr6 : Row (w5.setCell ⟨tb, 0, none⟩ (.slice (some ⟨w.heap.size + 1, 0, none⟩) 0 1)) 5 a5 1 (leafCells kd tx) := (hown5.setCell_row (fun e => by
        unfold rowOf at e; split at e
        · cases e
        · rcases hown5.2 with ⟨_, e2, _⟩ | ⟨g', off, cur, e3, e4, e5, _⟩
          · omega
          · rw [e3] at e; simp [blockOf] at e; subst e
            have := ht5; unfold Blk at this; rw [this] at e5; cases e5) _).row
      have H6 := Lib.hid (And.intro hx6 (And.intro ht6 (And.intro hr6 ((HB4.out.trans (hb5.mono hsz4)).setCell (p := ⟨tb, 0, none⟩) (by have := HS4.out; show w.heap.size ≤ tb; omega) (.slice (some ⟨w.heap.size + 1, 0, none⟩) 0 1)))))
      have hs5 := hb5.size
      clear hg5 hbk5 hown5 hb5 hx5 ht5 hx6 ht6 hr6 hne
      refine hK.out _ _ ?_ (fun hHeld => ?_)
      · exact ⟨y0, y1, y2, y3, y4⟩
      try simp only [Act.put]
      try simp only [List.setIfInBounds_toArray]
      try simp only [List.set_cons_succ, List.set_cons_zero]
      refine wpAnyH_take (i := 7) (oi := ⟨some 3, _, _, _, _, _⟩) (v := ?_) rfl (by kernel_rfl) (by kernel_rfl) (by kernel_rfl) (fun _ _ _ h => h) (Or.inl ⟨by rfl, ?_⟩) (by assumption) ?_; rotate_left; focus (intro w hSw; (try dsimp only at hSw); first | (go_simp; done) | (go_simp; with_reducible rfl))
      try simp only [Act.put]
      try simp only [List.setIfInBounds_toArray]
      try simp only [List.set_cons_succ, List.set_cons_zero]
      refine wpAnyH_ready (rs := [4]) (by kernel_rfl) (by simp) ?_
      refine AllReadyH.cons (i := 4) (o := ⟨some 25, _, _, _, _, _⟩) rfl (fun K hK => ?_) ?_
      · go_simp
        refine hK.out _ _ ?_ (fun hHeld => ?_)
        · exact hHeld
        try simp only [Act.put]
        try simp only [List.setIfInBounds_toArray]
        try simp only [List.set_cons_succ, List.set_cons_zero]
        refine wpAnyH_take (i := 6) (oi := ⟨some 27, _, _, _, _, _⟩) (v := ?_) rfl (by kernel_rfl) (by kernel_rfl) (by kernel_rfl) (fun _ _ _ h => h) (Or.inl ⟨by rfl, ?_⟩) (by assumption) ?_; rotate_left; focus (intro w hSw; (try dsimp only at hSw); first | (go_simp; done) | (go_simp; with_reducible rfl))
        try simp only [Act.put]
        try simp only [List.setIfInBounds_toArray]
        try simp only [List.set_cons_succ, List.set_cons_zero]
        refine wpAnyH_ready (rs := [8]) (by kernel_rfl) (by simp) ?_
        refine AllReadyH.cons (i := 8) (o := ⟨none, _, _, _, _, _⟩) rfl (fun K hK => ?_) ?_
        · go_simp
          refine hK.out _ _ ?_ (fun hHeld => ?_)
          · exact ⟨H6.out.1.cell 0, H6.out.1.cell 1, H6.out.1.cell 2, H6.out.1.cell 3, H6.out.1.cell 4⟩
          try simp only [Act.put]
          try simp only [List.setIfInBounds_toArray]
          try simp only [List.set_cons_succ, List.set_cons_zero]
          refine wpAnyH_done (by kernel_rfl) ?_ _
          obtain ⟨w6, hw6⟩ : ∃ w6, w6 = w5.setCell ⟨tb, 0, none⟩ (.slice (some ⟨w.heap.size + 1, 0, none⟩) 0 1) := ⟨_, rfl⟩
          try rw [← hw6]
          rw [← hw6] at H6
          clear hHeld y0 y1 y2 y3 y4 yt yf x0 x1 x2 x3 x4 t0 tf u0 u1 u2 u3 u4 ut hw6
          have z4 : w6.cell? ⟨xb, 4, none⟩ = some (.slice none 0 0) := H6.out.1.cell 4
          go_wp2_with fail
          refine (backward_nil w6).mono ?_
          rintro e w7 ⟨rfl, rfl⟩
          go_wp2_with fail
          refine (wpIn_wide (n := 9)).1 ?_
          refine wpIn_rangeFunc_ownG (a := ?a) rfl (by decide) (gf := 62) (lb := #[.pointer (some ⟨w6.heap.size, 0, none⟩)]) rfl trivial (enters_of Try.func62 (by kernel_rfl) rfl)
            (backward_stops w6.heap.size (w6.alloc (.cells #[.slice none 0 0] 22)) (by exact (Blk.new rfl).cell 0)) belowK_t (belowK_b (Nat.zero_le _)) (Below.refl _ _) (fun _ => rfl)
            (fun _ W => Below w6.heap.size w6 W ∧ w6.heap.size < W.heap.size) (fun _ _ _ => False)
            (fun pre X Y row hs hg hr => ⟨hs.1.grown hg hs.1.size (fun k e => by have h := (hr k e).1; simp at h; omega), by have := hg.size; have := hs.2; omega⟩)
            (fun _ _ _ _ _ hs _ _ => hs) ⟨below_a1 _ _, by simp⟩
            (fun x => x.elim) ?assign ?body ?done ?stop
          case assign =>
            intro l x
            exact x.elim
          case body =>
            rintro l pre x
            exact x.elim
          case stop =>
            rintro D c pre W _ h
            exact h.elim
          case done =>
            rintro D ys W hD rfl ⟨hB, hBs⟩ hK
            have v0 : W.cell? ⟨tb, 0, none⟩ = some (.slice (some ⟨w.heap.size + 1, 0, none⟩) 0 1) := (H6.out.2.1.ext hB).cell 0
            have HB := Lib.hid hB
            have HKd := Lib.hid hK
            have HD := Lib.hid hD
            clear hB hK hD z4
            go_wp2_with fail
            rw [rounds_succ]
            go_wp2
            simp only [NoP]
            unfold bodyPostM
            have hK' := (Below.refl W.heap.size W).alloc (Nat.le_refl _) (.cells #[.slice (some ⟨w.heap.size + 1, 0, none⟩) 0 1] 22)
            have hK2 : (W.alloc (.cells #[.slice (some ⟨w.heap.size + 1, 0, none⟩) 0 1] 22)).heap[D]? = some (.deferred (some [])) := (hK'.block D (Array.getElem?_eq_some_iff.1 HKd.out).1).trans HKd.out
            refine ⟨by simp, .inl ⟨_, _, rfl, run_takeDeferred hK2, ?_⟩⟩
            have h6 := H6.out.2.2.2
            have hDl := HD.out
            have hwl := h6.size
            have hW : Below w.heap.size w (W.alloc (.cells #[.slice (some ⟨w.heap.size + 1, 0, none⟩) 0 1] 22)) := (h6.trans (HB.out.mono hwl)).trans (hK'.mono (by have := HB.out.size; omega))
            have hput : Below w6.heap.size (W.alloc (.cells #[.slice (some ⟨w.heap.size + 1, 0, none⟩) 0 1] 22)) ((W.alloc (.cells #[.slice (some ⟨w.heap.size + 1, 0, none⟩) 0 1] 22)).putObj D (.deferred none)) := belowK_b (w := w6) (Nat.le_refl _) _ D _ _ (by simp at hDl; omega) hK2 rfl rfl
            refine ⟨_, results_tmp rfl _ _ _, _, rfl, hW.trans (hput.mono hwl), a5, c5, rfl, ?_⟩
            have hr7 := H6.out.2.2.1.ext (HB.out.trans (hK'.mono HB.out.size))
            have hr6 := H6.out.2.2.1
            exact hr6.ext ((HB.out.trans (hK'.mono HB.out.size)).trans hput)
        exact AllReadyH.nil
      exact AllReadyH.nil
    refine AllReadyH.cons (i := 4) (o := ⟨some 25, _, _, _, _, _⟩) rfl (fun K hK => ?_) ?_
    · go_simp
      refine hK.out _ _ ?_ (fun hHeld => ?_)
      · exact hHeld
      try simp only [Act.put]
      try simp only [List.setIfInBounds_toArray]
      try simp only [List.set_cons_succ, List.set_cons_zero]
      refine wpAnyH_take (i := 6) (oi := ⟨some 27, _, _, _, _, _⟩) (v := ?_) rfl (by kernel_rfl) (by kernel_rfl) (by kernel_rfl) (fun _ _ _ h => h) (Or.inl ⟨by rfl, ?_⟩) (by assumption) ?_; rotate_left; focus (intro w hSw; (try dsimp only at hSw); first | (go_simp; done) | (go_simp; with_reducible rfl))
      try simp only [Act.put]
      try simp only [List.setIfInBounds_toArray]
      try simp only [List.set_cons_succ, List.set_cons_zero]
      refine wpAnyH_ready (rs := [3]) (by kernel_rfl) (by simp) ?_
      refine AllReadyH.cons (i := 3) (o := ⟨some 24, _, _, _, _, _⟩) rfl (fun K hK => ?_) ?_
      · refine step_append_Own rfl (.tmp 21) (.tmp 23) 22 rfl w.heap.size 24 _ 5 72 Try.underlying22 infoPart rfl (by decide) none 0 0 _ (by simp [go_sem]) (Own.nil _ _ _ _) _ 1 1 (leafCells kd tx) (by simp [go_sem]; rfl) (by exact Row.new1 (by simp) rfl rfl) (by intro u hu; simp [leafCells] at hu; rcases hu with rfl | rfl | rfl | rfl | rfl <;> rfl) (by unfold maxLen; omega) (by omega) (by simp; omega) ?_
        intro a5 c5 w5 hown5 hg5 hbk5
        have hb5 : Below w4.heap.size w4 w5 := (below_a1 w4 (.cells #[.string ⟨kd.toArray⟩, .string ⟨tx.toArray⟩, .int .i64 0, .int .i64 0, .slice none 0 0] 24)).drew.grown hg5 (by simp) (fun j hj => by simp [rowOf] at hj)
        have hx5 := HX4.out.ext hb5
        have ht5 := HT4.out.ext hb5
        have y0 := below_ext hb5 x0
        have y1 := below_ext hb5 x1
        have y2 := below_ext hb5 x2
        have y3 := below_ext hb5 x3
        have y4 := below_ext hb5 x4
        have yt := below_ext hb5 t0
        have yf : w5.frozen? ⟨tb, 0, none⟩ = false := ht5.free 0
        have hne : xb ≠ tb := by have := HS4.out; omega
        have hx6 := hx5.other (p := ⟨tb, 0, none⟩) hne (.slice (some ⟨w.heap.size + 1, 0, none⟩) 0 1)
        have ht6 : Blk (w5.setCell ⟨tb, 0, none⟩ (.slice (some ⟨w.heap.size + 1, 0, none⟩) 0 1)) tb #[.slice (some ⟨w.heap.size + 1, 0, none⟩) 0 1] 22 := ht5.set 0 _
        have hr6 : Row (w5.setCell ⟨tb, 0, none⟩ (.slice (some ⟨w.heap.size + 1, 0, none⟩) 0 1)) 5 a5 1 (leafCells kd tx) := (hown5.setCell_row (fun e => by
          unfold rowOf at e; split at e
          · cases e
          · rcases hown5.2 with ⟨_, e2, _⟩ | ⟨g', off, cur, e3, e4, e5, _⟩
            · omega
            · rw [e3] at e; simp [blockOf] at e; subst e
              have := ht5; unfold Blk at this; rw [this] at e5; cases e5) _).row
        have H6 := Lib.hid (And.intro hx6 (And.intro ht6 (And.intro hr6 ((HB4.out.trans (hb5.mono hsz4)).setCell (p := ⟨tb, 0, none⟩) (by have := HS4.out; show w.heap.size ≤ tb; omega) (.slice (some ⟨w.heap.size + 1, 0, none⟩) 0 1)))))
        have hs5 := hb5.size
        clear hg5 hbk5 hown5 hb5 hx5 ht5 hx6 ht6 hr6 hne
        refine hK.out _ _ ?_ (fun hHeld => ?_)
        · exact ⟨y0, y1, y2, y3, y4⟩
        try simp only [Act.put]
        try simp only [List.setIfInBounds_toArray]
        try simp only [List.set_cons_succ, List.set_cons_zero]
        refine wpAnyH_take (i := 7) (oi := ⟨some 3, _, _, _, _, _⟩) (v := ?_) rfl (by kernel_rfl) (by kernel_rfl) (by kernel_rfl) (fun _ _ _ h => h) (Or.inl ⟨by rfl, ?_⟩) (by assumption) ?_; rotate_left; focus (intro w hSw; (try dsimp only at hSw); first | (go_simp; done) | (go_simp; with_reducible rfl))
        try simp only [Act.put]
        try simp only [List.setIfInBounds_toArray]
        try simp only [List.set_cons_succ, List.set_cons_zero]
        refine wpAnyH_ready (rs := [8]) (by kernel_rfl) (by simp) ?_
        refine AllReadyH.cons (i := 8) (o := ⟨none, _, _, _, _, _⟩) rfl (fun K hK => ?_) ?_
        · go_simp
          refine hK.out _ _ ?_ (fun hHeld => ?_)
          · exact ⟨H6.out.1.cell 0, H6.out.1.cell 1, H6.out.1.cell 2, H6.out.1.cell 3, H6.out.1.cell 4⟩
          try simp only [Act.put]
          try simp only [List.setIfInBounds_toArray]
          try simp only [List.set_cons_succ, List.set_cons_zero]
          refine wpAnyH_done (by kernel_rfl) ?_ _
          obtain ⟨w6, hw6⟩ : ∃ w6, w6 = w5.setCell ⟨tb, 0, none⟩ (.slice (some ⟨w.heap.size + 1, 0, none⟩) 0 1) := ⟨_, rfl⟩
          try rw [← hw6]
          rw [← hw6] at H6
          clear hHeld y0 y1 y2 y3 y4 yt yf x0 x1 x2 x3 x4 t0 tf u0 u1 u2 u3 u4 ut hw6
          have z4 : w6.cell? ⟨xb, 4, none⟩ = some (.slice none 0 0) := H6.out.1.cell 4
          go_wp2_with fail
          refine (backward_nil w6).mono ?_
          rintro e w7 ⟨rfl, rfl⟩
          go_wp2_with fail
          refine (wpIn_wide (n := 9)).1 ?_
          refine wpIn_rangeFunc_ownG (a := ?a) rfl (by decide) (gf := 62) (lb := #[.pointer (some ⟨w6.heap.size, 0, none⟩)]) rfl trivial (enters_of Try.func62 (by kernel_rfl) rfl)
            (backward_stops w6.heap.size (w6.alloc (.cells #[.slice none 0 0] 22)) (by exact (Blk.new rfl).cell 0)) belowK_t (belowK_b (Nat.zero_le _)) (Below.refl _ _) (fun _ => rfl)
            (fun _ W => Below w6.heap.size w6 W ∧ w6.heap.size < W.heap.size) (fun _ _ _ => False)
            (fun pre X Y row hs hg hr => ⟨hs.1.grown hg hs.1.size (fun k e => by have h := (hr k e).1; simp at h; omega), by have := hg.size; have := hs.2; omega⟩)
            (fun _ _ _ _ _ hs _ _ => hs) ⟨below_a1 _ _, by simp⟩
            (fun x => x.elim) ?assign ?body ?done ?stop
          case assign =>
            intro l x
            exact x.elim
          case body =>
            rintro l pre x
            exact x.elim
          case stop =>
            rintro D c pre W _ h
            exact h.elim
          case done =>
            rintro D ys W hD rfl ⟨hB, hBs⟩ hK
            have v0 : W.cell? ⟨tb, 0, none⟩ = some (.slice (some ⟨w.heap.size + 1, 0, none⟩) 0 1) := (H6.out.2.1.ext hB).cell 0
            have HB := Lib.hid hB
            have HKd := Lib.hid hK
            have HD := Lib.hid hD
            clear hB hK hD z4
            go_wp2_with fail
            rw [rounds_succ]
            go_wp2
            simp only [NoP]
            unfold bodyPostM
            have hK' := (Below.refl W.heap.size W).alloc (Nat.le_refl _) (.cells #[.slice (some ⟨w.heap.size + 1, 0, none⟩) 0 1] 22)
            have hK2 : (W.alloc (.cells #[.slice (some ⟨w.heap.size + 1, 0, none⟩) 0 1] 22)).heap[D]? = some (.deferred (some [])) := (hK'.block D (Array.getElem?_eq_some_iff.1 HKd.out).1).trans HKd.out
            refine ⟨by simp, .inl ⟨_, _, rfl, run_takeDeferred hK2, ?_⟩⟩
            have h6 := H6.out.2.2.2
            have hDl := HD.out
            have hwl := h6.size
            have hW : Below w.heap.size w (W.alloc (.cells #[.slice (some ⟨w.heap.size + 1, 0, none⟩) 0 1] 22)) := (h6.trans (HB.out.mono hwl)).trans (hK'.mono (by have := HB.out.size; omega))
            have hput : Below w6.heap.size (W.alloc (.cells #[.slice (some ⟨w.heap.size + 1, 0, none⟩) 0 1] 22)) ((W.alloc (.cells #[.slice (some ⟨w.heap.size + 1, 0, none⟩) 0 1] 22)).putObj D (.deferred none)) := belowK_b (w := w6) (Nat.le_refl _) _ D _ _ (by simp at hDl; omega) hK2 rfl rfl
            refine ⟨_, results_tmp rfl _ _ _, _, rfl, hW.trans (hput.mono hwl), a5, c5, rfl, ?_⟩
            have hr7 := H6.out.2.2.1.ext (HB.out.trans (hK'.mono HB.out.size))
            have hr6 := H6.out.2.2.1
            exact hr6.ext ((HB.out.trans (hK'.mono HB.out.size)).trans hput)
        exact AllReadyH.nil
      exact AllReadyH.nil
    exact AllReadyH.nil
  refine AllReadyH.cons (i := 4) (o := ⟨some 25, _, _, _, _, _⟩) rfl (fun K hK => ?_) ?_
  · go_simp
    refine hK.out _ _ ?_ (fun hHeld => ?_)
    · exact hHeld
    try simp only [Act.put]
    try simp only [List.setIfInBounds_toArray]
    try simp only [List.set_cons_succ, List.set_cons_zero]
    refine wpAnyH_take (i := 6) (oi := ⟨some 27, _, _, _, _, _⟩) (v := ?_) rfl (by kernel_rfl) (by kernel_rfl) (by kernel_rfl) (fun _ _ _ h => h) (Or.inl ⟨by rfl, ?_⟩) (by assumption) ?_; rotate_left; focus (intro w hSw; (try dsimp only at hSw); first | (go_simp; done) | (go_simp; with_reducible rfl))
    try simp only [Act.put]
    try simp only [List.setIfInBounds_toArray]
    try simp only [List.set_cons_succ, List.set_cons_zero]
    refine wpAnyH_ready (rs := [2]) (by kernel_rfl) (by simp) ?_
    refine AllReadyH.cons (i := 2) (o := ⟨some 23, _, _, _, _, _⟩) rfl (fun K hK => ?_) ?_
    · go_simp
      refine hK.out _ _ ?_ (fun hHeld => ?_)
      · exact ⟨u0, u1, u2, u3, u4⟩
      try simp only [Act.put]
      try simp only [List.setIfInBounds_toArray]
      try simp only [List.set_cons_succ, List.set_cons_zero]
      refine wpAnyH_ready (rs := [3]) (by kernel_rfl) (by simp) ?_
      refine AllReadyH.cons (i := 3) (o := ⟨some 24, _, _, _, _, _⟩) rfl (fun K hK => ?_) ?_
      · refine step_append_Own rfl (.tmp 21) (.tmp 23) 22 rfl w.heap.size 24 _ 5 72 Try.underlying22 infoPart rfl (by decide) none 0 0 _ (by simp [go_sem]) (Own.nil _ _ _ _) _ 1 1 (leafCells kd tx) (by simp [go_sem]; rfl) (by exact Row.new1 (by simp) rfl rfl) (by intro u hu; simp [leafCells] at hu; rcases hu with rfl | rfl | rfl | rfl | rfl <;> rfl) (by unfold maxLen; omega) (by omega) (by simp; omega) ?_
        intro a5 c5 w5 hown5 hg5 hbk5
        have hb5 : Below w4.heap.size w4 w5 := (below_a1 w4 (.cells #[.string ⟨kd.toArray⟩, .string ⟨tx.toArray⟩, .int .i64 0, .int .i64 0, .slice none 0 0] 24)).drew.grown hg5 (by simp) (fun j hj => by simp [rowOf] at hj)
        have hx5 := HX4.out.ext hb5
        have ht5 := HT4.out.ext hb5
        have y0 := below_ext hb5 x0
        have y1 := below_ext hb5 x1
        have y2 := below_ext hb5 x2
        have y3 := below_ext hb5 x3
        have y4 := below_ext hb5 x4
        have yt := below_ext hb5 t0
        have yf : w5.frozen? ⟨tb, 0, none⟩ = false := ht5.free 0
        have hne : xb ≠ tb := by have := HS4.out; omega
        have hx6 := hx5.other (p := ⟨tb, 0, none⟩) hne (.slice (some ⟨w.heap.size + 1, 0, none⟩) 0 1)
        have ht6 : Blk (w5.setCell ⟨tb, 0, none⟩ (.slice (some ⟨w.heap.size + 1, 0, none⟩) 0 1)) tb #[.slice (some ⟨w.heap.size + 1, 0, none⟩) 0 1] 22 := ht5.set 0 _
        have hr6 : Row (w5.setCell ⟨tb, 0, none⟩ (.slice (some ⟨w.heap.size + 1, 0, none⟩) 0 1)) 5 a5 1 (leafCells kd tx) := (hown5.setCell_row (fun e => by
          unfold rowOf at e; split at e
          · cases e
          · rcases hown5.2 with ⟨_, e2, _⟩ | ⟨g', off, cur, e3, e4, e5, _⟩
            · omega
            · rw [e3] at e; simp [blockOf] at e; subst e
              have := ht5; unfold Blk at this; rw [this] at e5; cases e5) _).row
        have H6 := Lib.hid (And.intro hx6 (And.intro ht6 (And.intro hr6 ((HB4.out.trans (hb5.mono hsz4)).setCell (p := ⟨tb, 0, none⟩) (by have := HS4.out; show w.heap.size ≤ tb; omega) (.slice (some ⟨w.heap.size + 1, 0, none⟩) 0 1)))))
        have hs5 := hb5.size
        clear hg5 hbk5 hown5 hb5 hx5 ht5 hx6 ht6 hr6 hne
        refine hK.out _ _ ?_ (fun hHeld => ?_)
        · exact ⟨y0, y1, y2, y3, y4⟩
        try simp only [Act.put]
        try simp only [List.setIfInBounds_toArray]
        try simp only [List.set_cons_succ, List.set_cons_zero]
        refine wpAnyH_take (i := 7) (oi := ⟨some 3, _, _, _, _, _⟩) (v := ?_) rfl (by kernel_rfl) (by kernel_rfl) (by kernel_rfl) (fun _ _ _ h => h) (Or.inl ⟨by rfl, ?_⟩) (by assumption) ?_; rotate_left; focus (intro w hSw; (try dsimp only at hSw); first | (go_simp; done) | (go_simp; with_reducible rfl))
        try simp only [Act.put]
        try simp only [List.setIfInBounds_toArray]
        try simp only [List.set_cons_succ, List.set_cons_zero]
        refine wpAnyH_ready (rs := [8]) (by kernel_rfl) (by simp) ?_
        refine AllReadyH.cons (i := 8) (o := ⟨none, _, _, _, _, _⟩) rfl (fun K hK => ?_) ?_
        · go_simp
          refine hK.out _ _ ?_ (fun hHeld => ?_)
          · exact ⟨H6.out.1.cell 0, H6.out.1.cell 1, H6.out.1.cell 2, H6.out.1.cell 3, H6.out.1.cell 4⟩
          try simp only [Act.put]
          try simp only [List.setIfInBounds_toArray]
          try simp only [List.set_cons_succ, List.set_cons_zero]
          refine wpAnyH_done (by kernel_rfl) ?_ _
          obtain ⟨w6, hw6⟩ : ∃ w6, w6 = w5.setCell ⟨tb, 0, none⟩ (.slice (some ⟨w.heap.size + 1, 0, none⟩) 0 1) := ⟨_, rfl⟩
          try rw [← hw6]
          rw [← hw6] at H6
          clear hHeld y0 y1 y2 y3 y4 yt yf x0 x1 x2 x3 x4 t0 tf u0 u1 u2 u3 u4 ut hw6
          have z4 : w6.cell? ⟨xb, 4, none⟩ = some (.slice none 0 0) := H6.out.1.cell 4
          go_wp2_with fail
          refine (backward_nil w6).mono ?_
          rintro e w7 ⟨rfl, rfl⟩
          go_wp2_with fail
          refine (wpIn_wide (n := 9)).1 ?_
          refine wpIn_rangeFunc_ownG (a := ?a) rfl (by decide) (gf := 62) (lb := #[.pointer (some ⟨w6.heap.size, 0, none⟩)]) rfl trivial (enters_of Try.func62 (by kernel_rfl) rfl)
            (backward_stops w6.heap.size (w6.alloc (.cells #[.slice none 0 0] 22)) (by exact (Blk.new rfl).cell 0)) belowK_t (belowK_b (Nat.zero_le _)) (Below.refl _ _) (fun _ => rfl)
            (fun _ W => Below w6.heap.size w6 W ∧ w6.heap.size < W.heap.size) (fun _ _ _ => False)
            (fun pre X Y row hs hg hr => ⟨hs.1.grown hg hs.1.size (fun k e => by have h := (hr k e).1; simp at h; omega), by have := hg.size; have := hs.2; omega⟩)
            (fun _ _ _ _ _ hs _ _ => hs) ⟨below_a1 _ _, by simp⟩
            (fun x => x.elim) ?assign ?body ?done ?stop
          case assign =>
            intro l x
            exact x.elim
          case body =>
            rintro l pre x
            exact x.elim
          case stop =>
            rintro D c pre W _ h
            exact h.elim
          case done =>
            rintro D ys W hD rfl ⟨hB, hBs⟩ hK
            have v0 : W.cell? ⟨tb, 0, none⟩ = some (.slice (some ⟨w.heap.size + 1, 0, none⟩) 0 1) := (H6.out.2.1.ext hB).cell 0
            have HB := Lib.hid hB
            have HKd := Lib.hid hK
            have HD := Lib.hid hD
            clear hB hK hD z4
            go_wp2_with fail
            rw [rounds_succ]
            go_wp2
            simp only [NoP]
            unfold bodyPostM
            have hK' := (Below.refl W.heap.size W).alloc (Nat.le_refl _) (.cells #[.slice (some ⟨w.heap.size + 1, 0, none⟩) 0 1] 22)
            have hK2 : (W.alloc (.cells #[.slice (some ⟨w.heap.size + 1, 0, none⟩) 0 1] 22)).heap[D]? = some (.deferred (some [])) := (hK'.block D (Array.getElem?_eq_some_iff.1 HKd.out).1).trans HKd.out
            refine ⟨by simp, .inl ⟨_, _, rfl, run_takeDeferred hK2, ?_⟩⟩
            have h6 := H6.out.2.2.2
            have hDl := HD.out
            have hwl := h6.size
            have hW : Below w.heap.size w (W.alloc (.cells #[.slice (some ⟨w.heap.size + 1, 0, none⟩) 0 1] 22)) := (h6.trans (HB.out.mono hwl)).trans (hK'.mono (by have := HB.out.size; omega))
            have hput : Below w6.heap.size (W.alloc (.cells #[.slice (some ⟨w.heap.size + 1, 0, none⟩) 0 1] 22)) ((W.alloc (.cells #[.slice (some ⟨w.heap.size + 1, 0, none⟩) 0 1] 22)).putObj D (.deferred none)) := belowK_b (w := w6) (Nat.le_refl _) _ D _ _ (by simp at hDl; omega) hK2 rfl rfl
            refine ⟨_, results_tmp rfl _ _ _, _, rfl, hW.trans (hput.mono hwl), a5, c5, rfl, ?_⟩
            have hr7 := H6.out.2.2.1.ext (HB.out.trans (hK'.mono HB.out.size))
            have hr6 := H6.out.2.2.1
            exact hr6.ext ((HB.out.trans (hK'.mono HB.out.size)).trans hput)
        exact AllReadyH.nil
      exact AllReadyH.nil
    exact AllReadyH.nil
  exact AllReadyH.nil
end Go.Proofs.Ytnepamdmjppglaa
