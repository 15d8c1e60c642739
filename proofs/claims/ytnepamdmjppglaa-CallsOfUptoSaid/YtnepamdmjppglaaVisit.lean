/- The finder's visit, walked. -/
import Derived.Test.YtnepamdmjppglaaIdx
import Derived.Deep.RegionHeld3
namespace Go.Proofs.Ytnepamdmjppglaa
open Go Go.RowKit

section
variable {w : World} {ops : Array Oper} {rest : List Oper} {o : Oper} {act : Act} {Q : Exit → Act → World → Prop} {K : Act → World → Prop} {E : Prop}
theorem step_lookV (hgd : o.guard = none) (m k : Operand) (ho : o.op = .lookup 57 m k false) {b : Nat} {ks : List Nm} {f : Nm → Nat}
    (h : IM w b ks f) {x : Nm} (hx : x.length ≤ maxLen) (hm : act.eval m = .map (some b)) (hk : act.eval k = .string ⟨x.toArray⟩) (v : Nat) (hv : f x = v) (hK : K (act.put o.dst (.int .i64 (v : Nat))) w) :
    if Region.wanted o (yielded ops act.tmps) = true then Oper.wp Try.prog o act w K Q else E := by
  subst hv
  exact step_lookI hgd m k ho h hx hm hk hK
end

theorem infoStrs : (Try.prog.info? 28).map (fun i => (i.zero, i.size, i.bytes)) = some (some (.slice none 0 0), 1, 24) := by kernel_rfl
theorem FSt.drew {F : FC} {v : FV} {w : World} {s : TSt Nm} (h : FSt F v w s) : FSt F v w.drew s := h.ext ((Below.refl _ _).drew)
/-- a post-state -/
def VOut (F : FC) (s : TSt Nm) (G : List Nm) (n : Nm) (e : Ending) (w' : World) : Prop := e = .returned (.tuple #[]) ∧ ∃ v' s', FSt F v' w' s' ∧ VPost (outs F.E) s G n s'

set_option maxHeartbeats 4000000 in
set_option maxRecDepth 20000 in
theorem visit_any (F : FC) (ho : F.Ok) : ∀ (m : Nat) (v : FV) (w : World) (s : TSt Nm) (G : List Nm) (n : Nm), FSt F v w s → TInv (outs F.E) s G → s.depth n = 0 → n ∈ F.ks → (∀ y ∈ G, Rch (outs F.E) y n) → F.ks.length ≤ s.cnt + m →
    Calls Try.prog 33 #[.pointer (some ⟨F.fb, 0, none⟩), .string ⟨n.toArray⟩] w (VOut F s G n) := by
  intro m
  induction m with
  | zero =>
    intro v w s G n hF hT h0 hn hG hm
    have := hF.cntLt hn h0
    omega
  | succ m ih =>
    intro v w s G n hF hT h0 hn hG hm
    have HF := Lib.hid hF
    have HT := Lib.hid hT
    have H0 := Lib.hid h0
    have Hn := Lib.hid hn
    have HG := Lib.hid hG
    have HO := Lib.hid ho
    have IH := Lib.hid ih
    have Hx : Hid (n.length ≤ maxLen) := Lib.hid (ho.rows.map.klen n hn)
    have hcnt := hF.cntLt hn h0
    have hkl := ho.kl
    have Hdl := Lib.hid hF.dl
    have c0 : w.cell? ⟨F.fb, 0, none⟩ = some (.map (some F.gb)) := hF.core.blk.cell 0
    have c1 : w.cell? ⟨F.fb, 1, none⟩ = some (.slice v.sa s.stack.length v.sc) := hF.core.blk.cell 1
    have c2 : w.cell? ⟨F.fb, 2, none⟩ = some (.map (some F.lm)) := hF.core.blk.cell 2
    have c3 : w.cell? ⟨F.fb, 3, none⟩ = some (.map (some F.dm)) := hF.core.blk.cell 3
    clear hF hT h0 hn hG ho ih
    go_enter Try.func33, Try.ntmps33
    go_wp2_with fail
    refine wp_region_held_drew (S := fun w' => w'.cell? ⟨F.fb, 3, none⟩ = some (.map (some F.dm))) (by kernel_rfl) ?_ (fun hHeld => ?_)
    · exact c3
    refine wpAnyH_take (i := 0) (oi := ⟨some 10, _, _, _, _, _⟩) (v := ?_) rfl (by kernel_rfl) (by kernel_rfl) (by kernel_rfl) (fun _ _ _ h => h) (Or.inl ⟨by rfl, ?_⟩) (by assumption) ?_; rotate_left; focus (intro w hSw; (try dsimp only at hSw); first | (go_simp; done) | (go_simp; with_reducible rfl))
    try simp only [Act.put]
    try simp only [List.setIfInBounds_toArray]
    try simp only [List.set_cons_succ, List.set_cons_zero]
    refine wpAnyH_take (i := 1) (oi := ⟨some 11, _, _, _, _, _⟩) (v := ?_) rfl (by kernel_rfl) (by kernel_rfl) (by kernel_rfl) (fun _ _ _ h => h) (Or.inl ⟨by rfl, ?_⟩) (by assumption) ?_; rotate_left; focus (intro w hSw; (try dsimp only at hSw); first | (go_simp; done) | (go_simp; with_reducible rfl))
    try simp only [Act.put]
    try simp only [List.setIfInBounds_toArray]
    try simp only [List.set_cons_succ, List.set_cons_zero]
    refine wpAnyH_take (i := 2) (oi := ⟨some 12, _, _, _, _, _⟩) (v := ?_) rfl (by kernel_rfl) (by kernel_rfl) (by kernel_rfl) (fun _ _ _ h => h) (Or.inl ⟨by rfl, ?_⟩) (by assumption) ?_; rotate_left; focus (intro w hSw; (try dsimp only at hSw); first | (go_simp; done) | (go_simp; with_reducible rfl))
    try simp only [Act.put]
    try simp only [List.setIfInBounds_toArray]
    try simp only [List.set_cons_succ, List.set_cons_zero]
    refine wpAnyH_take (i := 3) (oi := ⟨some 13, _, _, _, _, _⟩) (v := ?_) rfl (by kernel_rfl) (by kernel_rfl) (by kernel_rfl) (fun _ _ _ h => h) (Or.inl ⟨by rfl, ?_⟩) (by assumption) ?_; rotate_left; focus (intro w hSw; (try dsimp only at hSw); first | (go_simp; done) | (go_simp; with_reducible rfl))
    try simp only [Act.put]
    try simp only [List.setIfInBounds_toArray]
    try simp only [List.set_cons_succ, List.set_cons_zero]
    refine wpAnyH_take (i := 4) (oi := ⟨some 14, _, _, _, _, _⟩) (v := ?_) rfl (by kernel_rfl) (by kernel_rfl) (by kernel_rfl) (fun _ _ _ h => h) (Or.inl ⟨by rfl, ?_⟩) (by assumption) ?_; rotate_left; focus (intro w hSw; (try dsimp only at hSw); first | (go_simp; done) | (go_simp; with_reducible rfl))
    try simp only [Act.put]
    try simp only [List.setIfInBounds_toArray]
    try simp only [List.set_cons_succ, List.set_cons_zero]
    refine wpAnyH_take (i := 5) (oi := ⟨some 15, _, _, _, _, _⟩) (v := ?_) rfl (by kernel_rfl) (by kernel_rfl) (by kernel_rfl) (fun _ _ _ h => h) (Or.inl ⟨by rfl, ?_⟩) (by assumption) ?_; rotate_left; focus (intro w hSw; (try dsimp only at hSw); first | (go_simp; done) | (go_simp; with_reducible rfl))
    try simp only [Act.put]
    try simp only [List.setIfInBounds_toArray]
    try simp only [List.set_cons_succ, List.set_cons_zero]
    refine wpAnyH_take (i := 6) (oi := ⟨some 16, _, _, _, _, _⟩) (v := ?_) rfl (by kernel_rfl) (by kernel_rfl) (by kernel_rfl) (fun _ _ _ h => h) (Or.inl ⟨by rfl, ?_⟩) (by assumption) ?_; rotate_left; focus (intro w hSw; (try dsimp only at hSw); first | (go_simp; done) | (go_simp; with_reducible rfl))
    try simp only [Act.put]
    try simp only [List.setIfInBounds_toArray]
    try simp only [List.set_cons_succ, List.set_cons_zero]
    refine wpAnyH_take (i := 7) (oi := ⟨some 17, _, _, _, _, _⟩) (v := ?_) rfl (by kernel_rfl) (by kernel_rfl) (by kernel_rfl) (fun _ _ _ h => h) (Or.inl ⟨by rfl, ?_⟩) (by assumption) ?_; rotate_left; focus (intro w hSw; (try dsimp only at hSw); first | (go_simp; done) | (go_simp; with_reducible rfl))
    try simp only [Act.put]
    try simp only [List.setIfInBounds_toArray]
    try simp only [List.set_cons_succ, List.set_cons_zero]
    refine wpAnyH_take (i := 8) (oi := ⟨some 18, _, _, _, _, _⟩) (v := ?_) rfl (by kernel_rfl) (by kernel_rfl) (by kernel_rfl) (fun _ _ _ h => h) (Or.inl ⟨by rfl, ?_⟩) (by assumption) ?_; rotate_left; focus (intro w hSw; (try dsimp only at hSw); first | (go_simp; done) | (go_simp; with_reducible rfl))
    try simp only [Act.put]
    try simp only [List.setIfInBounds_toArray]
    try simp only [List.set_cons_succ, List.set_cons_zero]
    refine wpAnyH_ready (rs := [9]) (by kernel_rfl) (by simp) ?_
    refine AllReadyH.cons (i := 9) (o := ⟨some 19, _, _, _, _, _⟩) rfl (fun K hK => ?_) ?_
    · refine step_len rfl (.tmp 18) _ _ rfl undI (by exact HF.out.drew.dep) (by simp [go_sem]) ?_
      rw [Hdl.out]
      refine hK.out _ _ ?_ (fun hHeld => ?_)
      · exact hHeld
      try simp only [Act.put]
      try simp only [List.setIfInBounds_toArray]
      try simp only [List.set_cons_succ, List.set_cons_zero]
      refine wpAnyH_take (i := 10) (oi := ⟨some 20, _, _, _, _, _⟩) (v := ?_) rfl (by kernel_rfl) (by kernel_rfl) (by kernel_rfl) (fun _ _ _ h => h) (Or.inl ⟨by rfl, ?_⟩) (by assumption) ?_; rotate_left; focus (intro w hSw; (try dsimp only at hSw); first | (go_simp; done) | (go_simp; with_reducible rfl))
      try simp only [Act.put]
      try simp only [List.setIfInBounds_toArray]
      try simp only [List.set_cons_succ, List.set_cons_zero]
      refine wpAnyH_ready (rs := [11]) (by kernel_rfl) (by simp) ?_
      refine AllReadyH.cons (i := 11) (o := ⟨none, _, _, _, _, _⟩) rfl (fun K hK => ?_) ?_
      · refine step_storeI rfl (.tmp 13) (.tmp 14) (.tmp 20) rfl (by exact HF.out.drew.dep) Hx.out (by rw [Hdl.out]; unfold maxLen; omega) (by simp [go_sem]) (by simp [go_sem]) (val := s.cnt + 1) (by simp [go_sem]; exact IntWalk.i64_in _ (by omega)) ?_
        intro w1 hs1 hg1 hz1
        have HF1 := Lib.hid (HF.out.drew.depth1 HO.out Hn.out H0.out hs1 hg1)
        have k3 : w1.cell? ⟨F.fb, 3, none⟩ = some (.map (some F.dm)) := HF1.out.core.blk.cell 3
        clear hs1 hg1 hz1
        refine hK.out _ _ ?_ (fun hHeld => ?_)
        · exact k3
        try simp only [Act.put]
        try simp only [List.setIfInBounds_toArray]
        try simp only [List.set_cons_succ, List.set_cons_zero]
        refine wpAnyH_done (by kernel_rfl) ?_ _
        clear hHeld k3 c0 c1 c2 c3
        have d2 : w1.cell? ⟨F.fb, 2, none⟩ = some (.map (some F.lm)) := HF1.out.core.blk.cell 2
        have d3 : w1.cell? ⟨F.fb, 3, none⟩ = some (.map (some F.dm)) := HF1.out.core.blk.cell 3
        go_wp2_with fail
        refine wp_region_held_drew (S := fun w' => w'.cell? ⟨F.fb, 2, none⟩ = some (.map (some F.lm)) ∧ w'.cell? ⟨F.fb, 3, none⟩ = some (.map (some F.dm))) (by kernel_rfl) ?_ (fun hHeld => ?_)
        · exact ⟨d2, d3⟩
        refine wpAnyH_take (i := 0) (oi := ⟨some 21, _, _, _, _, _⟩) (v := ?_) rfl (by kernel_rfl) (by kernel_rfl) (by kernel_rfl) (fun _ _ _ h => h) (Or.inl ⟨by rfl, ?_⟩) (by assumption) ?_; rotate_left; focus (intro w hSw; (try dsimp only at hSw); first | (go_simp; done) | (go_simp; with_reducible rfl))
        try simp only [Act.put]
        try simp only [List.setIfInBounds_toArray]
        try simp only [List.set_cons_succ, List.set_cons_zero]
        refine wpAnyH_take (i := 1) (oi := ⟨some 22, _, _, _, _, _⟩) (v := ?_) rfl (by kernel_rfl) (by kernel_rfl) (by kernel_rfl) (fun _ _ _ h => h) (Or.inl ⟨by rfl, ?_⟩) (by assumption) ?_; rotate_left; focus (intro w hSw; (try dsimp only at hSw); first | (go_simp; done) | (go_simp; with_reducible rfl))
        try simp only [Act.put]
        try simp only [List.setIfInBounds_toArray]
        try simp only [List.set_cons_succ, List.set_cons_zero]
        refine wpAnyH_take (i := 2) (oi := ⟨some 23, _, _, _, _, _⟩) (v := ?_) rfl (by kernel_rfl) (by kernel_rfl) (by kernel_rfl) (fun _ _ _ h => h) (Or.inl ⟨by rfl, ?_⟩) (by assumption) ?_; rotate_left; focus (intro w hSw; (try dsimp only at hSw); first | (go_simp; done) | (go_simp; with_reducible rfl))
        try simp only [Act.put]
        try simp only [List.setIfInBounds_toArray]
        try simp only [List.set_cons_succ, List.set_cons_zero]
        refine wpAnyH_take (i := 3) (oi := ⟨some 24, _, _, _, _, _⟩) (v := ?_) rfl (by kernel_rfl) (by kernel_rfl) (by kernel_rfl) (fun _ _ _ h => h) (Or.inl ⟨by rfl, ?_⟩) (by assumption) ?_; rotate_left; focus (intro w hSw; (try dsimp only at hSw); first | (go_simp; done) | (go_simp; with_reducible rfl))
        try simp only [Act.put]
        try simp only [List.setIfInBounds_toArray]
        try simp only [List.set_cons_succ, List.set_cons_zero]
        refine wpAnyH_take (i := 4) (oi := ⟨some 25, _, _, _, _, _⟩) (v := ?_) rfl (by kernel_rfl) (by kernel_rfl) (by kernel_rfl) (fun _ _ _ h => h) (Or.inl ⟨by rfl, ?_⟩) (by assumption) ?_; rotate_left; focus (intro w hSw; (try dsimp only at hSw); first | (go_simp; done) | (go_simp; with_reducible rfl))
        try simp only [Act.put]
        try simp only [List.setIfInBounds_toArray]
        try simp only [List.set_cons_succ, List.set_cons_zero]
        refine wpAnyH_take (i := 5) (oi := ⟨some 26, _, _, _, _, _⟩) (v := ?_) rfl (by kernel_rfl) (by kernel_rfl) (by kernel_rfl) (fun _ _ _ h => h) (Or.inl ⟨by rfl, ?_⟩) (by assumption) ?_; rotate_left; focus (intro w hSw; (try dsimp only at hSw); first | (go_simp; done) | (go_simp; with_reducible rfl))
        try simp only [Act.put]
        try simp only [List.setIfInBounds_toArray]
        try simp only [List.set_cons_succ, List.set_cons_zero]
        refine wpAnyH_take (i := 6) (oi := ⟨some 27, _, _, _, _, _⟩) (v := ?_) rfl (by kernel_rfl) (by kernel_rfl) (by kernel_rfl) (fun _ _ _ h => h) (Or.inl ⟨by rfl, ?_⟩) (by assumption) ?_; rotate_left; focus (intro w hSw; (try dsimp only at hSw); first | (go_simp; done) | (go_simp; with_reducible rfl))
        try simp only [Act.put]
        try simp only [List.setIfInBounds_toArray]
        try simp only [List.set_cons_succ, List.set_cons_zero]
        refine wpAnyH_take (i := 7) (oi := ⟨some 28, _, _, _, _, _⟩) (v := ?_) rfl (by kernel_rfl) (by kernel_rfl) (by kernel_rfl) (fun _ _ _ h => h) (Or.inl ⟨by rfl, ?_⟩) (by assumption) ?_; rotate_left; focus (intro w hSw; (try dsimp only at hSw); first | (go_simp; done) | (go_simp; with_reducible rfl))
        try simp only [Act.put]
        try simp only [List.setIfInBounds_toArray]
        try simp only [List.set_cons_succ, List.set_cons_zero]
        refine wpAnyH_take (i := 8) (oi := ⟨some 29, _, _, _, _, _⟩) (v := ?_) rfl (by kernel_rfl) (by kernel_rfl) (by kernel_rfl) (fun _ _ _ h => h) (Or.inl ⟨by rfl, ?_⟩) (by assumption) ?_; rotate_left; focus (intro w hSw; (try dsimp only at hSw); first | (go_simp; done) | (go_simp; with_reducible rfl))
        try simp only [Act.put]
        try simp only [List.setIfInBounds_toArray]
        try simp only [List.set_cons_succ, List.set_cons_zero]
        refine wpAnyH_take (i := 9) (oi := ⟨some 30, _, _, _, _, _⟩) (v := ?_) rfl (by kernel_rfl) (by kernel_rfl) (by kernel_rfl) (fun _ _ _ h => h) (Or.inl ⟨by rfl, ?_⟩) (by assumption) ?_; rotate_left; focus (intro w hSw; (try dsimp only at hSw); first | (go_simp; done) | (go_simp; with_reducible rfl))
        try simp only [Act.put]
        try simp only [List.setIfInBounds_toArray]
        try simp only [List.set_cons_succ, List.set_cons_zero]
        refine wpAnyH_ready (rs := [10]) (by kernel_rfl) (by simp) ?_
        refine AllReadyH.cons (i := 10) (o := ⟨some 31, _, _, _, _, _⟩) rfl (fun K hK => ?_) ?_
        · refine step_lookV rfl (.tmp 29) (.tmp 30) rfl (by exact HF1.out.drew.dep) Hx.out (by simp [go_sem]) (by simp [go_sem]) (s.cnt + 1) (upd_same _ _ _) ?_
          refine hK.out _ _ ?_ (fun hHeld => ?_)
          · exact hHeld
          try simp only [Act.put]
          try simp only [List.setIfInBounds_toArray]
          try simp only [List.set_cons_succ, List.set_cons_zero]
          refine wpAnyH_ready (rs := [11]) (by kernel_rfl) (by simp) ?_
          refine AllReadyH.cons (i := 11) (o := ⟨none, _, _, _, _, _⟩) rfl (fun K hK => ?_) ?_
          · refine step_storeI rfl (.tmp 24) (.tmp 25) (.tmp 31) rfl (by exact HF1.out.drew.low) Hx.out (by have := HF1.out.lksLe; unfold maxLen; omega) (by simp [go_sem]) (by simp [go_sem]) (val := s.cnt + 1) (by simp [go_sem]) ?_
            intro w2 hs2 hg2 hz2
            have HF2 := Lib.hid (HF1.out.drew.lowS HO.out (mem_addK.2 (.inr rfl)) hs2 hg2)
            have e2 : w2.cell? ⟨F.fb, 2, none⟩ = some (.map (some F.lm)) := HF2.out.core.blk.cell 2
            have e3 : w2.cell? ⟨F.fb, 3, none⟩ = some (.map (some F.dm)) := HF2.out.core.blk.cell 3
            clear hs2 hg2 hz2
            refine hK.out _ _ ?_ (fun hHeld => ?_)
            · exact ⟨e2, e3⟩
            try simp only [Act.put]
            try simp only [List.setIfInBounds_toArray]
            try simp only [List.set_cons_succ, List.set_cons_zero]
            refine wpAnyH_done (by kernel_rfl) ?_ _
            clear hHeld e2 e3 d2 d3
            have Hsl : Hid (s.stack.length ≤ 1048576) := Lib.hid (Nat.le_trans (HF.out.stkLe HT.out.nodup fun x hx => ((HT.out.on x).1 hx).1) HO.out.kl)
            have hsl := Hsl.out
            have e1 : w2.cell? ⟨F.fb, 1, none⟩ = some (.slice v.sa s.stack.length v.sc) := HF2.out.core.blk.cell 1
            go_wp2_with (first
              | (at_builtin; refine wpList_append_Own rfl _ _ 28 rfl F.W.heap.size 9 _ 1 16 Try.underlying28 infoStr rfl (by decide) v.sa s.stack.length v.sc _ rfl (by exact HF2.out.core.stk.alloc _) _ 1 1 [strV n] rfl (Row.new1 (by simp) rfl rfl) (by intro u hu; simp at hu; subst hu; rfl) (by unfold maxLen; omega) (by omega) (Nat.le_trans HF2.out.core.below.size (by simp)) ?_; intro a3 c3' w3 hown3 hg3 hbk3; have hb3 : Blk w3 F.fb (F.cells _ _) _ := (HF2.out.core.blk.alloc _).grown hg3 (fun e => HF2.out.core.fbRow HF2.out.core.stk (by decide) e.symm); have f1 := hb3.free 1; have g1 : w3.cell? ⟨F.fb, 1, none⟩ = some (.slice v.sa s.stack.length v.sc) := hb3.cell 1; have hF3 := (HF2.out.ext (below_a1 _ _)).stackG HO.out (st := s.stack ++ [n]) (by have h := hown3; simpa using h) hg3 hbk3; have hle : (s.stack ++ [n]).length = s.stack.length + 1 := List.length_append; rw [hle] at hF3; have HF3 := Lib.hid hF3; have g0 : (w3.setCell ⟨F.fb, 1, none⟩ (.slice a3 (s.stack.length + 1) c3')).cell? ⟨F.fb, 0, none⟩ = some (.map (some F.gb)) := HF3.out.core.blk.cell 0; clear hown3 hg3 hbk3 hb3 hF3 hle)
              | (at_lookup; refine wpList_look rfl _ _ _ _ rfl undG (zeroStrs _) (by exact (HF3.out.core.graph HO.out).map) Hx.out rfl rfl ?_))
            have Hol : Hid ((outs F.E n).length ≤ 1048576) := Lib.hid (Nat.le_trans (outs_len _ _) HO.out.el)
            have hol := Hol.out
            obtain ⟨ra, hra⟩ : ∃ ra, ra = (F.sl n).1 := ⟨_, rfl⟩
            rw [← hra]
            have Hra := Lib.hid hra
            clear hra f1 g1 g0 e1
            go_loopw [49] (fun i wq => ∃ (k : Nat) (v : FV) (t : TSt Nm), k ≤ (outs F.E n).length ∧ i = .int .i64 k ∧ Hid (FSt F v wq t) ∧ Hid (LInv (outs F.E) s G n ((outs F.E n).take k) t)) (fun i _ => (outs F.E n).length - (intOf i).toNat)
            case atStart => exact ⟨0, _, s.come n, Nat.zero_le _, rfl, HF3, Lib.hid (LInv.start HT.out H0.out HG.out)⟩
            case round =>
              clear HF1 HF2 HF3 hsl
              obtain ⟨k, v, t, hk, rfl, hF, hL⟩ := hrel
              have Hnd : Hid (n ∈ v.dks) := Lib.hid ((hF.out.dk n).2 (by rw [hL.out.depth_n]; omega))
              by_cases hlt : k < (outs F.E n).length
              · obtain ⟨cc, hcc⟩ := get_some hlt
                have hrow := ((hF.out.core.graph HO.out).own n).row
                rw [← Hra.out] at hrow
                obtain ⟨b2, off2, hra2, cc0⟩ := str_at hrow hcc
                clear hrow Hra
                subst hra2
                have hcm := List.mem_of_getElem? hcc
                have Hcg : Hid (cc ∈ outs F.E n) := Lib.hid hcm
                have hck : cc ∈ F.ks := (HO.out.rows.keys (n, cc) (mem_outs.1 hcm)).2
                have Hck := Lib.hid hck
                have Hc : Hid (cc.length ≤ maxLen) := Lib.hid (HO.out.rows.map.klen cc hck)
                have Htk : Hid ((outs F.E n).take (k + 1) = (outs F.E n).take k ++ [cc]) := Lib.hid (by rw [List.take_add_one, hcc]; rfl)
                have q2 : wr.cell? ⟨F.fb, 2, none⟩ = some (.map (some F.lm)) := hF.out.core.blk.cell 2
                have q3 : wr.cell? ⟨F.fb, 3, none⟩ = some (.map (some F.dm)) := hF.out.core.blk.cell 3
                have q4 : wr.cell? ⟨F.fb, 4, none⟩ = some (.map (some F.gm)) := hF.out.core.blk.cell 4
                clear hcc hcm hck
                by_cases hdep : t.depth cc = 0
                · have hdep := Lib.hid hdep
                  have Hcall := Lib.hid (IH.out v wr t (G ++ [n]) cc hF.out hL.out.inv hdep.out Hck.out (fun y hy => by
                    rcases List.mem_append.1 hy with h | h
                    · exact .tail (HG.out y h) Hcg.out
                    · simp at h; subst h; exact Rch.edge Hcg.out) (by have := hL.out.cnt; omega))
                  go_wp2_with (at_lookup; refine wpList_lookI rfl _ _ rfl (by exact hF.out.dep) Hc.out rfl rfl 0 hdep.out ?_)
                  refine Hcall.out.mono ?_
                  clear q2 q3 q4
                  rintro e w5 ⟨rfl, v5, t5, hF5, hV5⟩
                  have HF5 := Lib.hid hF5
                  have HV5 := Lib.hid hV5
                  have Hn5 : Hid (n ∈ v5.dks) := Lib.hid ((hF5.dk n).2 (by rw [hV5.ext.depth n (by rw [hL.out.depth_n]; omega), hL.out.depth_n]; omega))
                  have q2 : w5.cell? ⟨F.fb, 2, none⟩ = some (.map (some F.lm)) := hF5.core.blk.cell 2
                  clear hF5 hV5 Hcall
                  go_wp2_with fail
                  refine wp_region_held_drew (S := fun w' => w'.cell? ⟨F.fb, 2, none⟩ = some (.map (some F.lm))) (by kernel_rfl) ?_ (fun hHeld => ?_)
                  · exact q2
                  refine wpAnyH_take (i := 0) (oi := ⟨some 63, _, _, _, _, _⟩) (v := ?_) rfl (by kernel_rfl) (by kernel_rfl) (by kernel_rfl) (fun _ _ _ h => h) (Or.inl ⟨by rfl, ?_⟩) (by assumption) ?_; rotate_left; focus (intro w hSw; (try dsimp only at hSw); first | (go_simp; done) | (go_simp; with_reducible rfl))
                  try simp only [Act.put]
                  try simp only [List.setIfInBounds_toArray]
                  try simp only [List.set_cons_succ, List.set_cons_zero]
                  refine wpAnyH_take (i := 1) (oi := ⟨some 64, _, _, _, _, _⟩) (v := ?_) rfl (by kernel_rfl) (by kernel_rfl) (by kernel_rfl) (fun _ _ _ h => h) (Or.inl ⟨by rfl, ?_⟩) (by assumption) ?_; rotate_left; focus (intro w hSw; (try dsimp only at hSw); first | (go_simp; done) | (go_simp; with_reducible rfl))
                  try simp only [Act.put]
                  try simp only [List.setIfInBounds_toArray]
                  try simp only [List.set_cons_succ, List.set_cons_zero]
                  refine wpAnyH_take (i := 2) (oi := ⟨some 65, _, _, _, _, _⟩) (v := ?_) rfl (by kernel_rfl) (by kernel_rfl) (by kernel_rfl) (fun _ _ _ h => h) (Or.inl ⟨by rfl, ?_⟩) (by assumption) ?_; rotate_left; focus (intro w hSw; (try dsimp only at hSw); first | (go_simp; done) | (go_simp; with_reducible rfl))
                  try simp only [Act.put]
                  try simp only [List.setIfInBounds_toArray]
                  try simp only [List.set_cons_succ, List.set_cons_zero]
                  refine wpAnyH_take (i := 3) (oi := ⟨some 66, _, _, _, _, _⟩) (v := ?_) rfl (by kernel_rfl) (by kernel_rfl) (by kernel_rfl) (fun _ _ _ h => h) (Or.inl ⟨by rfl, ?_⟩) (by assumption) ?_; rotate_left; focus (intro w hSw; (try dsimp only at hSw); first | (go_simp; done) | (go_simp; with_reducible rfl))
                  try simp only [Act.put]
                  try simp only [List.setIfInBounds_toArray]
                  try simp only [List.set_cons_succ, List.set_cons_zero]
                  refine wpAnyH_take (i := 4) (oi := ⟨some 67, _, _, _, _, _⟩) (v := ?_) rfl (by kernel_rfl) (by kernel_rfl) (by kernel_rfl) (fun _ _ _ h => h) (Or.inl ⟨by rfl, ?_⟩) (by assumption) ?_; rotate_left; focus (intro w hSw; (try dsimp only at hSw); first | (go_simp; done) | (go_simp; with_reducible rfl))
                  try simp only [Act.put]
                  try simp only [List.setIfInBounds_toArray]
                  try simp only [List.set_cons_succ, List.set_cons_zero]
                  refine wpAnyH_take (i := 5) (oi := ⟨some 68, _, _, _, _, _⟩) (v := ?_) rfl (by kernel_rfl) (by kernel_rfl) (by kernel_rfl) (fun _ _ _ h => h) (Or.inl ⟨by rfl, ?_⟩) (by assumption) ?_; rotate_left; focus (intro w hSw; (try dsimp only at hSw); first | (go_simp; done) | (go_simp; with_reducible rfl))
                  try simp only [Act.put]
                  try simp only [List.setIfInBounds_toArray]
                  try simp only [List.set_cons_succ, List.set_cons_zero]
                  refine wpAnyH_take (i := 6) (oi := ⟨some 69, _, _, _, _, _⟩) (v := ?_) rfl (by kernel_rfl) (by kernel_rfl) (by kernel_rfl) (fun _ _ _ h => h) (Or.inl ⟨by rfl, ?_⟩) (by assumption) ?_; rotate_left; focus (intro w hSw; (try dsimp only at hSw); first | (go_simp; done) | (go_simp; with_reducible rfl))
                  try simp only [Act.put]
                  try simp only [List.setIfInBounds_toArray]
                  try simp only [List.set_cons_succ, List.set_cons_zero]
                  refine wpAnyH_take (i := 7) (oi := ⟨some 70, _, _, _, _, _⟩) (v := ?_) rfl (by kernel_rfl) (by kernel_rfl) (by kernel_rfl) (fun _ _ _ h => h) (Or.inl ⟨by rfl, ?_⟩) (by assumption) ?_; rotate_left; focus (intro w hSw; (try dsimp only at hSw); first | (go_simp; done) | (go_simp; with_reducible rfl))
                  try simp only [Act.put]
                  try simp only [List.setIfInBounds_toArray]
                  try simp only [List.set_cons_succ, List.set_cons_zero]
                  refine wpAnyH_take (i := 8) (oi := ⟨some 71, _, _, _, _, _⟩) (v := ?_) rfl (by kernel_rfl) (by kernel_rfl) (by kernel_rfl) (fun _ _ _ h => h) (Or.inl ⟨by rfl, ?_⟩) (by assumption) ?_; rotate_left; focus (intro w hSw; (try dsimp only at hSw); first | (go_simp; done) | (go_simp; with_reducible rfl))
                  try simp only [Act.put]
                  try simp only [List.setIfInBounds_toArray]
                  try simp only [List.set_cons_succ, List.set_cons_zero]
                  refine wpAnyH_take (i := 9) (oi := ⟨some 72, _, _, _, _, _⟩) (v := ?_) rfl (by kernel_rfl) (by kernel_rfl) (by kernel_rfl) (fun _ _ _ h => h) (Or.inl ⟨by rfl, ?_⟩) (by assumption) ?_; rotate_left; focus (intro w hSw; (try dsimp only at hSw); first | (go_simp; done) | (go_simp; with_reducible rfl))
                  try simp only [Act.put]
                  try simp only [List.setIfInBounds_toArray]
                  try simp only [List.set_cons_succ, List.set_cons_zero]
                  refine wpAnyH_take (i := 11) (oi := ⟨some 74, _, _, _, _, _⟩) (v := ?_) rfl (by kernel_rfl) (by kernel_rfl) (by kernel_rfl) (fun _ _ _ h => h) (Or.inl ⟨by rfl, ?_⟩) (by assumption) ?_; rotate_left; focus (intro w hSw; (try dsimp only at hSw); first | (go_simp; done) | (go_simp; with_reducible rfl))
                  try simp only [Act.put]
                  try simp only [List.setIfInBounds_toArray]
                  try simp only [List.set_cons_succ, List.set_cons_zero]
                  refine wpAnyH_take (i := 12) (oi := ⟨some 75, _, _, _, _, _⟩) (v := ?_) rfl (by kernel_rfl) (by kernel_rfl) (by kernel_rfl) (fun _ _ _ h => h) (Or.inl ⟨by rfl, ?_⟩) (by assumption) ?_; rotate_left; focus (intro w hSw; (try dsimp only at hSw); first | (go_simp; done) | (go_simp; with_reducible rfl))
                  try simp only [Act.put]
                  try simp only [List.setIfInBounds_toArray]
                  try simp only [List.set_cons_succ, List.set_cons_zero]
                  refine wpAnyH_take (i := 13) (oi := ⟨some 76, _, _, _, _, _⟩) (v := ?_) rfl (by kernel_rfl) (by kernel_rfl) (by kernel_rfl) (fun _ _ _ h => h) (Or.inl ⟨by rfl, ?_⟩) (by assumption) ?_; rotate_left; focus (intro w hSw; (try dsimp only at hSw); first | (go_simp; done) | (go_simp; with_reducible rfl))
                  try simp only [Act.put]
                  try simp only [List.setIfInBounds_toArray]
                  try simp only [List.set_cons_succ, List.set_cons_zero]
                  refine wpAnyH_take (i := 14) (oi := ⟨some 77, _, _, _, _, _⟩) (v := ?_) rfl (by kernel_rfl) (by kernel_rfl) (by kernel_rfl) (fun _ _ _ h => h) (Or.inl ⟨by rfl, ?_⟩) (by assumption) ?_; rotate_left; focus (intro w hSw; (try dsimp only at hSw); first | (go_simp; done) | (go_simp; with_reducible rfl))
                  try simp only [Act.put]
                  try simp only [List.setIfInBounds_toArray]
                  try simp only [List.set_cons_succ, List.set_cons_zero]
                  refine wpAnyH_take (i := 15) (oi := ⟨some 78, _, _, _, _, _⟩) (v := ?_) rfl (by kernel_rfl) (by kernel_rfl) (by kernel_rfl) (fun _ _ _ h => h) (Or.inl ⟨by rfl, ?_⟩) (by assumption) ?_; rotate_left; focus (intro w hSw; (try dsimp only at hSw); first | (go_simp; done) | (go_simp; with_reducible rfl))
                  try simp only [Act.put]
                  try simp only [List.setIfInBounds_toArray]
                  try simp only [List.set_cons_succ, List.set_cons_zero]
                  refine wpAnyH_ready (rs := [10, 16]) (by kernel_rfl) (by simp) ?_
                  refine AllReadyH.cons (i := 10) (o := ⟨some 73, _, _, _, _, _⟩) rfl (fun K hK => ?_) ?_
                  · refine step_lookV rfl (.tmp 71) (.tmp 72) rfl (by exact HF5.out.drew.low) Hx.out (by simp [go_sem]) (by simp [go_sem]) (t5.low n) rfl ?_
                    refine hK.out _ _ ?_ (fun hHeld => ?_)
                    · exact hHeld
                    try simp only [Act.put]
                    try simp only [List.setIfInBounds_toArray]
                    try simp only [List.set_cons_succ, List.set_cons_zero]
                    refine wpAnyH_ready (rs := [16]) (by kernel_rfl) (by simp) ?_
                    refine AllReadyH.cons (i := 16) (o := ⟨some 79, _, _, _, _, _⟩) rfl (fun K hK => ?_) ?_
                    · refine step_lookV rfl (.tmp 77) (.tmp 78) rfl (by exact HF5.out.drew.low) Hc.out (by simp [go_sem]) (by simp [go_sem]) (t5.low cc) rfl ?_
                      refine hK.out _ _ ?_ (fun hHeld => ?_)
                      · exact hHeld
                      try simp only [Act.put]
                      try simp only [List.setIfInBounds_toArray]
                      try simp only [List.set_cons_succ, List.set_cons_zero]
                      refine wpAnyH_take (i := 17) (oi := ⟨some 80, _, _, _, _, _⟩) (v := ?_) rfl (by kernel_rfl) (by kernel_rfl) (by kernel_rfl) (fun _ _ _ h => h) (Or.inl ⟨by rfl, ?_⟩) (by assumption) ?_; rotate_left; focus (intro w hSw; (try dsimp only at hSw); first | (go_simp; done) | (go_simp; with_reducible rfl))
                      try simp only [Act.put]
                      try simp only [List.setIfInBounds_toArray]
                      try simp only [List.set_cons_succ, List.set_cons_zero]
                      refine wpAnyH_ready (rs := [18]) (by kernel_rfl) (by simp) ?_
                      refine AllReadyH.cons (i := 18) (o := ⟨none, _, _, _, _, _⟩) rfl (fun K hK => ?_) ?_
                      · refine step_storeI rfl (.tmp 66) (.tmp 67) (.tmp 80) rfl (by exact HF5.out.drew.low) Hx.out (by have := HF5.out.lksLe; unfold maxLen; omega) (by simp [go_sem]) (by simp [go_sem]) (val := min (t5.low n) (t5.low cc)) (by simp [go_sem]; omega) ?_
                        intro w6 hs6 hg6 hz6
                        have HF6 := Lib.hid (HF5.out.drew.lowS HO.out Hn5.out hs6 hg6)
                        have p2 : w6.cell? ⟨F.fb, 2, none⟩ = some (.map (some F.lm)) := HF6.out.core.blk.cell 2
                        clear hs6 hg6 hz6
                        refine hK.out _ _ ?_ (fun hHeld => ?_)
                        · exact p2
                        try simp only [Act.put]
                        try simp only [List.setIfInBounds_toArray]
                        try simp only [List.set_cons_succ, List.set_cons_zero]
                        refine wpAnyH_done (by kernel_rfl) ?_ _
                        clear hHeld p2 q2
                        go_wp2
                        go_roundw
                        case rel => exact ⟨k + 1, _, _, by omega, by go_num, HF6, Lib.hid (by rw [Htk.out]; exact hL.out.white HT.out H0.out Hcg.out hdep.out HV5.out)⟩
                        case measure => simp [intOf]; omega
                      exact AllReadyH.nil
                    exact AllReadyH.nil
                  refine AllReadyH.cons (i := 16) (o := ⟨some 79, _, _, _, _, _⟩) rfl (fun K hK => ?_) ?_
                  · refine step_lookV rfl (.tmp 77) (.tmp 78) rfl (by exact HF5.out.drew.low) Hc.out (by simp [go_sem]) (by simp [go_sem]) (t5.low cc) rfl ?_
                    refine hK.out _ _ ?_ (fun hHeld => ?_)
                    · exact hHeld
                    try simp only [Act.put]
                    try simp only [List.setIfInBounds_toArray]
                    try simp only [List.set_cons_succ, List.set_cons_zero]
                    refine wpAnyH_ready (rs := [10]) (by kernel_rfl) (by simp) ?_
                    refine AllReadyH.cons (i := 10) (o := ⟨some 73, _, _, _, _, _⟩) rfl (fun K hK => ?_) ?_
                    · refine step_lookV rfl (.tmp 71) (.tmp 72) rfl (by exact HF5.out.drew.low) Hx.out (by simp [go_sem]) (by simp [go_sem]) (t5.low n) rfl ?_
                      refine hK.out _ _ ?_ (fun hHeld => ?_)
                      · exact hHeld
                      try simp only [Act.put]
                      try simp only [List.setIfInBounds_toArray]
                      try simp only [List.set_cons_succ, List.set_cons_zero]
                      refine wpAnyH_take (i := 17) (oi := ⟨some 80, _, _, _, _, _⟩) (v := ?_) rfl (by kernel_rfl) (by kernel_rfl) (by kernel_rfl) (fun _ _ _ h => h) (Or.inl ⟨by rfl, ?_⟩) (by assumption) ?_; rotate_left; focus (intro w hSw; (try dsimp only at hSw); first | (go_simp; done) | (go_simp; with_reducible rfl))
                      try simp only [Act.put]
                      try simp only [List.setIfInBounds_toArray]
                      try simp only [List.set_cons_succ, List.set_cons_zero]
                      refine wpAnyH_ready (rs := [18]) (by kernel_rfl) (by simp) ?_
                      refine AllReadyH.cons (i := 18) (o := ⟨none, _, _, _, _, _⟩) rfl (fun K hK => ?_) ?_
                      · refine step_storeI rfl (.tmp 66) (.tmp 67) (.tmp 80) rfl (by exact HF5.out.drew.low) Hx.out (by have := HF5.out.lksLe; unfold maxLen; omega) (by simp [go_sem]) (by simp [go_sem]) (val := min (t5.low n) (t5.low cc)) (by simp [go_sem]; omega) ?_
                        intro w6 hs6 hg6 hz6
                        have HF6 := Lib.hid (HF5.out.drew.lowS HO.out Hn5.out hs6 hg6)
                        have p2 : w6.cell? ⟨F.fb, 2, none⟩ = some (.map (some F.lm)) := HF6.out.core.blk.cell 2
                        clear hs6 hg6 hz6
                        refine hK.out _ _ ?_ (fun hHeld => ?_)
                        · exact p2
                        try simp only [Act.put]
                        try simp only [List.setIfInBounds_toArray]
                        try simp only [List.set_cons_succ, List.set_cons_zero]
                        refine wpAnyH_done (by kernel_rfl) ?_ _
                        clear hHeld p2 q2
                        go_wp2
                        go_roundw
                        case rel => exact ⟨k + 1, _, _, by omega, by go_num, HF6, Lib.hid (by rw [Htk.out]; exact hL.out.white HT.out H0.out Hcg.out hdep.out HV5.out)⟩
                        case measure => simp [intOf]; omega
                      exact AllReadyH.nil
                    exact AllReadyH.nil
                  exact AllReadyH.nil
                · have fdep : ((t.depth cc : Int) == 0) = false := by simpa using hdep
                  have hdep := Lib.hid hdep
                  have tok1 : True := trivial
                  by_cases hgrp : t.grp cc = 0
                  · have hgrp := Lib.hid hgrp
                    go_wp2_with (first
                      | (at_lookup; have _t := tok1; refine wpList_lookI rfl _ _ rfl (by exact hF.out.dep) Hc.out rfl rfl (t.depth cc) rfl ?_; clear tok1)
                      | (at_lookup; refine wpList_lookI rfl _ _ rfl (by exact hF.out.grp) Hc.out rfl rfl 0 hgrp.out ?_))
                    refine wp_region_held_drew (S := fun w' => w'.cell? ⟨F.fb, 2, none⟩ = some (.map (some F.lm)) ∧ w'.cell? ⟨F.fb, 3, none⟩ = some (.map (some F.dm))) (by kernel_rfl) ?_ (fun hHeld => ?_)
                    · exact ⟨q2, q3⟩
                    refine wpAnyH_take (i := 0) (oi := ⟨some 88, _, _, _, _, _⟩) (v := ?_) rfl (by kernel_rfl) (by kernel_rfl) (by kernel_rfl) (fun _ _ _ h => h) (Or.inl ⟨by rfl, ?_⟩) (by assumption) ?_; rotate_left; focus (intro w hSw; (try dsimp only at hSw); first | (go_simp; done) | (go_simp; with_reducible rfl))
                    try simp only [Act.put]
                    try simp only [List.setIfInBounds_toArray]
                    try simp only [List.set_cons_succ, List.set_cons_zero]
                    refine wpAnyH_take (i := 1) (oi := ⟨some 89, _, _, _, _, _⟩) (v := ?_) rfl (by kernel_rfl) (by kernel_rfl) (by kernel_rfl) (fun _ _ _ h => h) (Or.inl ⟨by rfl, ?_⟩) (by assumption) ?_; rotate_left; focus (intro w hSw; (try dsimp only at hSw); first | (go_simp; done) | (go_simp; with_reducible rfl))
                    try simp only [Act.put]
                    try simp only [List.setIfInBounds_toArray]
                    try simp only [List.set_cons_succ, List.set_cons_zero]
                    refine wpAnyH_take (i := 2) (oi := ⟨some 90, _, _, _, _, _⟩) (v := ?_) rfl (by kernel_rfl) (by kernel_rfl) (by kernel_rfl) (fun _ _ _ h => h) (Or.inl ⟨by rfl, ?_⟩) (by assumption) ?_; rotate_left; focus (intro w hSw; (try dsimp only at hSw); first | (go_simp; done) | (go_simp; with_reducible rfl))
                    try simp only [Act.put]
                    try simp only [List.setIfInBounds_toArray]
                    try simp only [List.set_cons_succ, List.set_cons_zero]
                    refine wpAnyH_take (i := 3) (oi := ⟨some 91, _, _, _, _, _⟩) (v := ?_) rfl (by kernel_rfl) (by kernel_rfl) (by kernel_rfl) (fun _ _ _ h => h) (Or.inl ⟨by rfl, ?_⟩) (by assumption) ?_; rotate_left; focus (intro w hSw; (try dsimp only at hSw); first | (go_simp; done) | (go_simp; with_reducible rfl))
                    try simp only [Act.put]
                    try simp only [List.setIfInBounds_toArray]
                    try simp only [List.set_cons_succ, List.set_cons_zero]
                    refine wpAnyH_take (i := 4) (oi := ⟨some 92, _, _, _, _, _⟩) (v := ?_) rfl (by kernel_rfl) (by kernel_rfl) (by kernel_rfl) (fun _ _ _ h => h) (Or.inl ⟨by rfl, ?_⟩) (by assumption) ?_; rotate_left; focus (intro w hSw; (try dsimp only at hSw); first | (go_simp; done) | (go_simp; with_reducible rfl))
                    try simp only [Act.put]
                    try simp only [List.setIfInBounds_toArray]
                    try simp only [List.set_cons_succ, List.set_cons_zero]
                    refine wpAnyH_take (i := 5) (oi := ⟨some 93, _, _, _, _, _⟩) (v := ?_) rfl (by kernel_rfl) (by kernel_rfl) (by kernel_rfl) (fun _ _ _ h => h) (Or.inl ⟨by rfl, ?_⟩) (by assumption) ?_; rotate_left; focus (intro w hSw; (try dsimp only at hSw); first | (go_simp; done) | (go_simp; with_reducible rfl))
                    try simp only [Act.put]
                    try simp only [List.setIfInBounds_toArray]
                    try simp only [List.set_cons_succ, List.set_cons_zero]
                    refine wpAnyH_take (i := 6) (oi := ⟨some 94, _, _, _, _, _⟩) (v := ?_) rfl (by kernel_rfl) (by kernel_rfl) (by kernel_rfl) (fun _ _ _ h => h) (Or.inl ⟨by rfl, ?_⟩) (by assumption) ?_; rotate_left; focus (intro w hSw; (try dsimp only at hSw); first | (go_simp; done) | (go_simp; with_reducible rfl))
                    try simp only [Act.put]
                    try simp only [List.setIfInBounds_toArray]
                    try simp only [List.set_cons_succ, List.set_cons_zero]
                    refine wpAnyH_take (i := 7) (oi := ⟨some 95, _, _, _, _, _⟩) (v := ?_) rfl (by kernel_rfl) (by kernel_rfl) (by kernel_rfl) (fun _ _ _ h => h) (Or.inl ⟨by rfl, ?_⟩) (by assumption) ?_; rotate_left; focus (intro w hSw; (try dsimp only at hSw); first | (go_simp; done) | (go_simp; with_reducible rfl))
                    try simp only [Act.put]
                    try simp only [List.setIfInBounds_toArray]
                    try simp only [List.set_cons_succ, List.set_cons_zero]
                    refine wpAnyH_take (i := 8) (oi := ⟨some 96, _, _, _, _, _⟩) (v := ?_) rfl (by kernel_rfl) (by kernel_rfl) (by kernel_rfl) (fun _ _ _ h => h) (Or.inl ⟨by rfl, ?_⟩) (by assumption) ?_; rotate_left; focus (intro w hSw; (try dsimp only at hSw); first | (go_simp; done) | (go_simp; with_reducible rfl))
                    try simp only [Act.put]
                    try simp only [List.setIfInBounds_toArray]
                    try simp only [List.set_cons_succ, List.set_cons_zero]
                    refine wpAnyH_take (i := 9) (oi := ⟨some 97, _, _, _, _, _⟩) (v := ?_) rfl (by kernel_rfl) (by kernel_rfl) (by kernel_rfl) (fun _ _ _ h => h) (Or.inl ⟨by rfl, ?_⟩) (by assumption) ?_; rotate_left; focus (intro w hSw; (try dsimp only at hSw); first | (go_simp; done) | (go_simp; with_reducible rfl))
                    try simp only [Act.put]
                    try simp only [List.setIfInBounds_toArray]
                    try simp only [List.set_cons_succ, List.set_cons_zero]
                    refine wpAnyH_take (i := 11) (oi := ⟨some 99, _, _, _, _, _⟩) (v := ?_) rfl (by kernel_rfl) (by kernel_rfl) (by kernel_rfl) (fun _ _ _ h => h) (Or.inl ⟨by rfl, ?_⟩) (by assumption) ?_; rotate_left; focus (intro w hSw; (try dsimp only at hSw); first | (go_simp; done) | (go_simp; with_reducible rfl))
                    try simp only [Act.put]
                    try simp only [List.setIfInBounds_toArray]
                    try simp only [List.set_cons_succ, List.set_cons_zero]
                    refine wpAnyH_take (i := 12) (oi := ⟨some 100, _, _, _, _, _⟩) (v := ?_) rfl (by kernel_rfl) (by kernel_rfl) (by kernel_rfl) (fun _ _ _ h => h) (Or.inl ⟨by rfl, ?_⟩) (by assumption) ?_; rotate_left; focus (intro w hSw; (try dsimp only at hSw); first | (go_simp; done) | (go_simp; with_reducible rfl))
                    try simp only [Act.put]
                    try simp only [List.setIfInBounds_toArray]
                    try simp only [List.set_cons_succ, List.set_cons_zero]
                    refine wpAnyH_take (i := 13) (oi := ⟨some 101, _, _, _, _, _⟩) (v := ?_) rfl (by kernel_rfl) (by kernel_rfl) (by kernel_rfl) (fun _ _ _ h => h) (Or.inl ⟨by rfl, ?_⟩) (by assumption) ?_; rotate_left; focus (intro w hSw; (try dsimp only at hSw); first | (go_simp; done) | (go_simp; with_reducible rfl))
                    try simp only [Act.put]
                    try simp only [List.setIfInBounds_toArray]
                    try simp only [List.set_cons_succ, List.set_cons_zero]
                    refine wpAnyH_take (i := 14) (oi := ⟨some 102, _, _, _, _, _⟩) (v := ?_) rfl (by kernel_rfl) (by kernel_rfl) (by kernel_rfl) (fun _ _ _ h => h) (Or.inl ⟨by rfl, ?_⟩) (by assumption) ?_; rotate_left; focus (intro w hSw; (try dsimp only at hSw); first | (go_simp; done) | (go_simp; with_reducible rfl))
                    try simp only [Act.put]
                    try simp only [List.setIfInBounds_toArray]
                    try simp only [List.set_cons_succ, List.set_cons_zero]
                    refine wpAnyH_take (i := 15) (oi := ⟨some 103, _, _, _, _, _⟩) (v := ?_) rfl (by kernel_rfl) (by kernel_rfl) (by kernel_rfl) (fun _ _ _ h => h) (Or.inl ⟨by rfl, ?_⟩) (by assumption) ?_; rotate_left; focus (intro w hSw; (try dsimp only at hSw); first | (go_simp; done) | (go_simp; with_reducible rfl))
                    try simp only [Act.put]
                    try simp only [List.setIfInBounds_toArray]
                    try simp only [List.set_cons_succ, List.set_cons_zero]
                    refine wpAnyH_ready (rs := [10, 16]) (by kernel_rfl) (by simp) ?_
                    refine AllReadyH.cons (i := 10) (o := ⟨some 98, _, _, _, _, _⟩) rfl (fun K hK => ?_) ?_
                    · refine step_lookV rfl (.tmp 96) (.tmp 97) rfl (by exact hF.out.drew.low) Hx.out (by simp [go_sem]) (by simp [go_sem]) (t.low n) rfl ?_
                      refine hK.out _ _ ?_ (fun hHeld => ?_)
                      · exact hHeld
                      try simp only [Act.put]
                      try simp only [List.setIfInBounds_toArray]
                      try simp only [List.set_cons_succ, List.set_cons_zero]
                      refine wpAnyH_ready (rs := [16]) (by kernel_rfl) (by simp) ?_
                      refine AllReadyH.cons (i := 16) (o := ⟨some 104, _, _, _, _, _⟩) rfl (fun K hK => ?_) ?_
                      · refine step_lookV rfl (.tmp 102) (.tmp 103) rfl (by exact hF.out.drew.dep) Hc.out (by simp [go_sem]) (by simp [go_sem]) (t.depth cc) rfl ?_
                        refine hK.out _ _ ?_ (fun hHeld => ?_)
                        · exact hHeld
                        try simp only [Act.put]
                        try simp only [List.setIfInBounds_toArray]
                        try simp only [List.set_cons_succ, List.set_cons_zero]
                        refine wpAnyH_take (i := 17) (oi := ⟨some 105, _, _, _, _, _⟩) (v := ?_) rfl (by kernel_rfl) (by kernel_rfl) (by kernel_rfl) (fun _ _ _ h => h) (Or.inl ⟨by rfl, ?_⟩) (by assumption) ?_; rotate_left; focus (intro w hSw; (try dsimp only at hSw); first | (go_simp; done) | (go_simp; with_reducible rfl))
                        try simp only [Act.put]
                        try simp only [List.setIfInBounds_toArray]
                        try simp only [List.set_cons_succ, List.set_cons_zero]
                        refine wpAnyH_ready (rs := [18]) (by kernel_rfl) (by simp) ?_
                        refine AllReadyH.cons (i := 18) (o := ⟨none, _, _, _, _, _⟩) rfl (fun K hK => ?_) ?_
                        · refine step_storeI rfl (.tmp 91) (.tmp 92) (.tmp 105) rfl (by exact hF.out.drew.low) Hx.out (by have := hF.out.lksLe; unfold maxLen; omega) (by simp [go_sem]) (by simp [go_sem]) (val := min (t.low n) (t.depth cc)) (by simp [go_sem]; omega) ?_
                          intro w6 hs6 hg6 hz6
                          have HF6 := Lib.hid (hF.out.drew.lowS HO.out Hnd.out hs6 hg6)
                          have p2 : w6.cell? ⟨F.fb, 2, none⟩ = some (.map (some F.lm)) := HF6.out.core.blk.cell 2
                          have p3 : w6.cell? ⟨F.fb, 3, none⟩ = some (.map (some F.dm)) := HF6.out.core.blk.cell 3
                          clear hs6 hg6 hz6
                          refine hK.out _ _ ?_ (fun hHeld => ?_)
                          · exact ⟨p2, p3⟩
                          try simp only [Act.put]
                          try simp only [List.setIfInBounds_toArray]
                          try simp only [List.set_cons_succ, List.set_cons_zero]
                          refine wpAnyH_done (by kernel_rfl) ?_ _
                          clear hHeld p2 p3 q2 q3 q4
                          go_wp2
                          go_roundw
                          case rel => exact ⟨k + 1, _, _, by omega, by go_num, HF6, Lib.hid (by rw [Htk.out]; exact hL.out.cross HT.out H0.out Hcg.out hdep.out hgrp.out)⟩
                          case measure => simp [intOf]; omega
                        exact AllReadyH.nil
                      exact AllReadyH.nil
                    refine AllReadyH.cons (i := 16) (o := ⟨some 104, _, _, _, _, _⟩) rfl (fun K hK => ?_) ?_
                    · refine step_lookV rfl (.tmp 102) (.tmp 103) rfl (by exact hF.out.drew.dep) Hc.out (by simp [go_sem]) (by simp [go_sem]) (t.depth cc) rfl ?_
                      refine hK.out _ _ ?_ (fun hHeld => ?_)
                      · exact hHeld
                      try simp only [Act.put]
                      try simp only [List.setIfInBounds_toArray]
                      try simp only [List.set_cons_succ, List.set_cons_zero]
                      refine wpAnyH_ready (rs := [10]) (by kernel_rfl) (by simp) ?_
                      refine AllReadyH.cons (i := 10) (o := ⟨some 98, _, _, _, _, _⟩) rfl (fun K hK => ?_) ?_
                      · refine step_lookV rfl (.tmp 96) (.tmp 97) rfl (by exact hF.out.drew.low) Hx.out (by simp [go_sem]) (by simp [go_sem]) (t.low n) rfl ?_
                        refine hK.out _ _ ?_ (fun hHeld => ?_)
                        · exact hHeld
                        try simp only [Act.put]
                        try simp only [List.setIfInBounds_toArray]
                        try simp only [List.set_cons_succ, List.set_cons_zero]
                        refine wpAnyH_take (i := 17) (oi := ⟨some 105, _, _, _, _, _⟩) (v := ?_) rfl (by kernel_rfl) (by kernel_rfl) (by kernel_rfl) (fun _ _ _ h => h) (Or.inl ⟨by rfl, ?_⟩) (by assumption) ?_; rotate_left; focus (intro w hSw; (try dsimp only at hSw); first | (go_simp; done) | (go_simp; with_reducible rfl))
                        try simp only [Act.put]
                        try simp only [List.setIfInBounds_toArray]
                        try simp only [List.set_cons_succ, List.set_cons_zero]
                        refine wpAnyH_ready (rs := [18]) (by kernel_rfl) (by simp) ?_
                        refine AllReadyH.cons (i := 18) (o := ⟨none, _, _, _, _, _⟩) rfl (fun K hK => ?_) ?_
                        · refine step_storeI rfl (.tmp 91) (.tmp 92) (.tmp 105) rfl (by exact hF.out.drew.low) Hx.out (by have := hF.out.lksLe; unfold maxLen; omega) (by simp [go_sem]) (by simp [go_sem]) (val := min (t.low n) (t.depth cc)) (by simp [go_sem]; omega) ?_
                          intro w6 hs6 hg6 hz6
                          have HF6 := Lib.hid (hF.out.drew.lowS HO.out Hnd.out hs6 hg6)
                          have p2 : w6.cell? ⟨F.fb, 2, none⟩ = some (.map (some F.lm)) := HF6.out.core.blk.cell 2
                          have p3 : w6.cell? ⟨F.fb, 3, none⟩ = some (.map (some F.dm)) := HF6.out.core.blk.cell 3
                          clear hs6 hg6 hz6
                          refine hK.out _ _ ?_ (fun hHeld => ?_)
                          · exact ⟨p2, p3⟩
                          try simp only [Act.put]
                          try simp only [List.setIfInBounds_toArray]
                          try simp only [List.set_cons_succ, List.set_cons_zero]
                          refine wpAnyH_done (by kernel_rfl) ?_ _
                          clear hHeld p2 p3 q2 q3 q4
                          go_wp2
                          go_roundw
                          case rel => exact ⟨k + 1, _, _, by omega, by go_num, HF6, Lib.hid (by rw [Htk.out]; exact hL.out.cross HT.out H0.out Hcg.out hdep.out hgrp.out)⟩
                          case measure => simp [intOf]; omega
                        exact AllReadyH.nil
                      exact AllReadyH.nil
                    exact AllReadyH.nil
                  · have fgrp : ((t.grp cc : Int) == 0) = false := by simpa using hgrp
                    have hgrp := Lib.hid hgrp
                    go_wp2_with (first
                      | (at_lookup; have _t := tok1; refine wpList_lookI rfl _ _ rfl (by exact hF.out.dep) Hc.out rfl rfl (t.depth cc) rfl ?_; clear tok1)
                      | (at_lookup; refine wpList_lookI rfl _ _ rfl (by exact hF.out.grp) Hc.out rfl rfl (t.grp cc) rfl ?_))
                    go_roundw
                    case rel => exact ⟨k + 1, v, t, by omega, by go_num, hF, Lib.hid (by rw [Htk.out]; exact hL.out.skip HT.out hdep.out hgrp.out)⟩
                    case measure => simp [intOf]; omega
              · obtain rfl : k = (outs F.E n).length := by omega
                have hL' := hL.out
                rw [List.take_length] at hL'
                have HL := Lib.hid hL'
                clear hL hL' Hra
                have q1 : wr.cell? ⟨F.fb, 1, none⟩ = some (.slice v.sa t.stack.length v.sc) := hF.out.core.blk.cell 1
                have q2 : wr.cell? ⟨F.fb, 2, none⟩ = some (.map (some F.lm)) := hF.out.core.blk.cell 2
                have q3 : wr.cell? ⟨F.fb, 3, none⟩ = some (.map (some F.dm)) := hF.out.core.blk.cell 3
                go_wp2_with fail
                refine wp_region_held_drew (S := fun w' => w'.cell? ⟨F.fb, 2, none⟩ = some (.map (some F.lm)) ∧ w'.cell? ⟨F.fb, 3, none⟩ = some (.map (some F.dm)) ∧ Hid (IM w' F.lm v.lks t.low ∧ IM w' F.dm v.dks t.depth)) (by kernel_rfl) ?_ (fun hHeld => ?_)
                · exact ⟨q2, q3, hF.out.drew.low, hF.out.drew.dep⟩
                refine wpAnyH_take (i := 0) (oi := ⟨some 107, _, _, _, _, _⟩) (v := ?_) rfl (by kernel_rfl) (by kernel_rfl) (by kernel_rfl) (fun _ _ _ h => h) (Or.inl ⟨by rfl, ?_⟩) (by assumption) ?_; rotate_left; focus (intro w hSw; (try dsimp only at hSw); first | (go_simp; done) | (go_simp; with_reducible rfl))
                try simp only [Act.put]
                try simp only [List.setIfInBounds_toArray]
                try simp only [List.set_cons_succ, List.set_cons_zero]
                refine wpAnyH_take (i := 1) (oi := ⟨some 108, _, _, _, _, _⟩) (v := ?_) rfl (by kernel_rfl) (by kernel_rfl) (by kernel_rfl) (fun _ _ _ h => h) (Or.inl ⟨by rfl, ?_⟩) (by assumption) ?_; rotate_left; focus (intro w hSw; (try dsimp only at hSw); first | (go_simp; done) | (go_simp; with_reducible rfl))
                try simp only [Act.put]
                try simp only [List.setIfInBounds_toArray]
                try simp only [List.set_cons_succ, List.set_cons_zero]
                refine wpAnyH_take (i := 2) (oi := ⟨some 109, _, _, _, _, _⟩) (v := ?_) rfl (by kernel_rfl) (by kernel_rfl) (by kernel_rfl) (fun _ _ _ h => h) (Or.inl ⟨by rfl, ?_⟩) (by assumption) ?_; rotate_left; focus (intro w hSw; (try dsimp only at hSw); first | (go_simp; done) | (go_simp; with_reducible rfl))
                try simp only [Act.put]
                try simp only [List.setIfInBounds_toArray]
                try simp only [List.set_cons_succ, List.set_cons_zero]
                refine wpAnyH_take (i := 3) (oi := ⟨some 110, _, _, _, _, _⟩) (v := ?_) rfl (by kernel_rfl) (by kernel_rfl) (by kernel_rfl) (fun _ _ _ h => h) (Or.inl ⟨by rfl, ?_⟩) (by assumption) ?_; rotate_left; focus (intro w hSw; (try dsimp only at hSw); first | (go_simp; done) | (go_simp; with_reducible rfl))
                try simp only [Act.put]
                try simp only [List.setIfInBounds_toArray]
                try simp only [List.set_cons_succ, List.set_cons_zero]
                refine wpAnyH_take (i := 4) (oi := ⟨some 111, _, _, _, _, _⟩) (v := ?_) rfl (by kernel_rfl) (by kernel_rfl) (by kernel_rfl) (fun _ _ _ h => h) (Or.inl ⟨by rfl, ?_⟩) (by assumption) ?_; rotate_left; focus (intro w hSw; (try dsimp only at hSw); first | (go_simp; done) | (go_simp; with_reducible rfl))
                try simp only [Act.put]
                try simp only [List.setIfInBounds_toArray]
                try simp only [List.set_cons_succ, List.set_cons_zero]
                refine wpAnyH_take (i := 5) (oi := ⟨some 112, _, _, _, _, _⟩) (v := ?_) rfl (by kernel_rfl) (by kernel_rfl) (by kernel_rfl) (fun _ _ _ h => h) (Or.inl ⟨by rfl, ?_⟩) (by assumption) ?_; rotate_left; focus (intro w hSw; (try dsimp only at hSw); refine Eq.trans (take_lookI (.tmp 110) (.tmp 111) (by rfl) hSw.2.2.out.1 Hx.out (by simp [go_sem]) (by simp [go_sem]) (t.low n) rfl) ?_; with_reducible rfl)
                try simp only [Act.put]
                try simp only [List.setIfInBounds_toArray]
                try simp only [List.set_cons_succ, List.set_cons_zero]
                refine wpAnyH_take (i := 6) (oi := ⟨some 113, _, _, _, _, _⟩) (v := ?_) rfl (by kernel_rfl) (by kernel_rfl) (by kernel_rfl) (fun _ _ _ h => h) (Or.inl ⟨by rfl, ?_⟩) (by assumption) ?_; rotate_left; focus (intro w hSw; (try dsimp only at hSw); first | (go_simp; done) | (go_simp; with_reducible rfl))
                try simp only [Act.put]
                try simp only [List.setIfInBounds_toArray]
                try simp only [List.set_cons_succ, List.set_cons_zero]
                refine wpAnyH_take (i := 7) (oi := ⟨some 114, _, _, _, _, _⟩) (v := ?_) rfl (by kernel_rfl) (by kernel_rfl) (by kernel_rfl) (fun _ _ _ h => h) (Or.inl ⟨by rfl, ?_⟩) (by assumption) ?_; rotate_left; focus (intro w hSw; (try dsimp only at hSw); first | (go_simp; done) | (go_simp; with_reducible rfl))
                try simp only [Act.put]
                try simp only [List.setIfInBounds_toArray]
                try simp only [List.set_cons_succ, List.set_cons_zero]
                refine wpAnyH_take (i := 8) (oi := ⟨some 115, _, _, _, _, _⟩) (v := ?_) rfl (by kernel_rfl) (by kernel_rfl) (by kernel_rfl) (fun _ _ _ h => h) (Or.inl ⟨by rfl, ?_⟩) (by assumption) ?_; rotate_left; focus (intro w hSw; (try dsimp only at hSw); first | (go_simp; done) | (go_simp; with_reducible rfl))
                try simp only [Act.put]
                try simp only [List.setIfInBounds_toArray]
                try simp only [List.set_cons_succ, List.set_cons_zero]
                refine wpAnyH_take (i := 9) (oi := ⟨some 116, _, _, _, _, _⟩) (v := ?_) rfl (by kernel_rfl) (by kernel_rfl) (by kernel_rfl) (fun _ _ _ h => h) (Or.inl ⟨by rfl, ?_⟩) (by assumption) ?_; rotate_left; focus (intro w hSw; (try dsimp only at hSw); first | (go_simp; done) | (go_simp; with_reducible rfl))
                try simp only [Act.put]
                try simp only [List.setIfInBounds_toArray]
                try simp only [List.set_cons_succ, List.set_cons_zero]
                refine wpAnyH_take (i := 10) (oi := ⟨some 117, _, _, _, _, _⟩) (v := ?_) rfl (by kernel_rfl) (by kernel_rfl) (by kernel_rfl) (fun _ _ _ h => h) (Or.inl ⟨by rfl, ?_⟩) (by assumption) ?_; rotate_left; focus (intro w hSw; (try dsimp only at hSw); first | (go_simp; done) | (go_simp; with_reducible rfl))
                try simp only [Act.put]
                try simp only [List.setIfInBounds_toArray]
                try simp only [List.set_cons_succ, List.set_cons_zero]
                refine wpAnyH_take (i := 11) (oi := ⟨some 118, _, _, _, _, _⟩) (v := ?_) rfl (by kernel_rfl) (by kernel_rfl) (by kernel_rfl) (fun _ _ _ h => h) (Or.inl ⟨by rfl, ?_⟩) (by assumption) ?_; rotate_left; focus (intro w hSw; (try dsimp only at hSw); refine Eq.trans (take_lookI (.tmp 116) (.tmp 117) (by rfl) hSw.2.2.out.2 Hx.out (by simp [go_sem]) (by simp [go_sem]) (t.depth n) rfl) ?_; with_reducible rfl)
                try simp only [Act.put]
                try simp only [List.setIfInBounds_toArray]
                try simp only [List.set_cons_succ, List.set_cons_zero]
                refine wpAnyH_take (i := 12) (oi := ⟨some 119, _, _, _, _, _⟩) (v := ?_) rfl (by kernel_rfl) (by kernel_rfl) (by kernel_rfl) (fun _ _ _ h => h) (Or.inl ⟨by rfl, ?_⟩) (by assumption) ?_; rotate_left; focus (intro w hSw; (try dsimp only at hSw); first | (go_simp; done) | (go_simp; with_reducible rfl))
                try simp only [Act.put]
                try simp only [List.setIfInBounds_toArray]
                try simp only [List.set_cons_succ, List.set_cons_zero]
                refine wpAnyH_done (by kernel_rfl) ?_ _
                clear hHeld q1
                by_cases hlo : t.low n < t.depth n
                · have Hlo := Lib.hid hlo
                  go_wp2
                  refine bodyPost_ret (results_none rfl _ _ _) rfl ?_
                  exact ⟨rfl, v, t, hF.out.drew, HL.out.back HT.out H0.out Hlo.out⟩
                · have Hnlt := Lib.hid hlo
                  -- POP
                  have hstk : n ∈ t.stack := HL.out.inv.gray n (by simp)
                  obtain ⟨pre, post, hst⟩ := List.append_of_mem hstk
                  have hnodup := HL.out.inv.nodup
                  rw [hst] at hnodup
                  have hnpre : n ∉ pre := fun h => by
                    rw [List.nodup_append] at hnodup
                    exact hnodup.2.2 n h n (by simp) rfl
                  have hnd2 : (n :: post).Nodup := by
                    rw [List.nodup_append] at hnodup
                    exact hnodup.2.1
                  have Hnd2 := Lib.hid hnd2
                  have hlt0 : t.stack.length ≤ 1048576 := Nat.le_trans (hF.out.stkLe HL.out.inv.nodup fun x hx => ((HL.out.inv.on x).1 hx).1) hkl
                  have hown := hF.out.drew.core.stk
                  have hown2 := hown
                  rw [hst] at hown2
                  have hidx := index_any v.sa v.sc pre post n wr.drew hown2.row (by rw [← hst]; omega) hnpre
                  rw [← hst] at hidx
                  have hpl : t.stack.length = pre.length + (n :: post).length := by rw [hst]; exact List.length_append
                  have hlc : t.stack.length ≤ v.sc := hown.le
                  have hdr : (t.stack.map strV).drop (pre.length * 1) = (n :: post).map strV := by rw [Nat.mul_one, ← List.map_drop, hst, List.drop_left]
                  have htk0 : (t.stack.map strV).take (pre.length * 1) = pre.map strV := by rw [Nat.mul_one, ← List.map_take, hst, List.take_left]
                  have hm0 : (n :: post).length = (srt (n :: post)).length := (srt_len _).symm
                  obtain ⟨sL, hL⟩ : ∃ sL, sL = t.stack.length := ⟨_, rfl⟩
                  obtain ⟨p0, hp⟩ : ∃ p0, p0 = pre.length := ⟨_, rfl⟩
                  obtain ⟨zs, hzs⟩ : ∃ zs, zs = n :: post := ⟨_, rfl⟩
                  obtain ⟨mm, hmm⟩ : ∃ mm, mm = zs.length := ⟨_, rfl⟩
                  rw [← hL, ← hp] at hidx
                  rw [← hzs] at hpl hdr Hnd2 hm0
                  rw [← hL, ← hp, ← hmm] at hpl
                  rw [← hL] at hlt0 hlc
                  rw [← hp] at hdr htk0
                  rw [← hmm] at hm0
                  have hpl1 := Nat.le_of_eq hpl
                  have hpl2 := Nat.le_of_eq hpl.symm
                  have Hst := Lib.hid hst
                  have HL0 := Lib.hid hL
                  have Hp := Lib.hid hp
                  have Hzs := Lib.hid hzs
                  have Hmm := Lib.hid hmm
                  have Hdr := Lib.hid hdr
                  have Htk0 := Lib.hid htk0
                  have Hm0 := Lib.hid hm0
                  have HD := Lib.hid hF.out.drew
                  have Hown := Lib.hid (by rw [← hL] at hown; exact hown)
                  have Hidx := Lib.hid hidx
                  have q1 : wr.cell? ⟨F.fb, 1, none⟩ = some (.slice v.sa sL v.sc) := by rw [hL]; exact HD.out.core.blk.cell 1
                  clear hpl hstk hst hnodup hnpre hown hown2 hidx hL hp hzs hmm hdr htk0 hm0 hnd2 q2 q3
                  go_wp2_with fail
                  refine Hidx.out.mono ?_
                  clear Hidx
                  rintro e w' ⟨rfl, rfl⟩
                  go_wp2_with ((with_reducible show wpList _ _ _ _ _ _); refine wpList_slice_from (o := ⟨some 131, _, _, _, _, _⟩) rfl _ _ _ rfl 9 1 Try.underlying28 sizeStr _ _ _ rfl _ (p0 : Int) rfl (by omega) (by omega) ?_; intro ax hax; have Hax := Lib.hid hax.out; clear hax; simp only [Int.toNat_natCast])
                  have hcut := Hown.out.cut (l := p0) (by omega) (a' := ax) (by have h := Hax.out; rw [Int.toNat_natCast] at h; exact h)
                  have hsub : sL - p0 = mm := by omega
                  rw [Hdr.out, hsub] at hcut
                  rw [hsub]
                  have hvals := values_in ax mm (v.sc - p0) wr.drew
                  have hsorted := sorted_values ax (v.sc - p0) zs wr.drew (by have := Hmm.out; omega) (by rw [← Hmm.out]; exact hcut.row)
                  rw [← Hmm.out] at hsorted
                  clear hcut Hax hsub
                  go_wp2_with fail
                  refine hvals.mono ?_
                  clear hvals
                  rintro e w' ⟨rfl, rfl⟩
                  go_wp2_with fail
                  refine hsorted.mono ?_
                  clear hsorted
                  rintro e w6 ⟨ag, cg, rfl, hog, hb6⟩
                  have hF6 := HD.out.ext hb6
                  have hag : ∀ g, 0 < cg → blockOf ag = some g → wr.drew.heap.size ≤ g := fun g _ hg => hog.base hg
                  have hrs : ∀ g, 0 < v.sc → blockOf v.sa = some g → g < wr.drew.heap.size := fun g h0 hg => (Hown.out.size h0 hg).2
                  have hst6 := hF6.core.stk
                  have htake := hst6.take (m := p0) (by rw [← HL0.out]; omega)
                  rw [Htk0.out] at htake
                  have hF7 := hF6.stackF HO.out (st := pre) (by rw [← Hp.out]; exact htake) hF6.core.apart
                  rw [← Hp.out] at hF7
                  have x1 : w6.cell? ⟨F.fb, 1, none⟩ = some (.slice v.sa sL v.sc) := by rw [HL0.out]; exact hF6.core.blk.cell 1
                  have xf : w6.frozen? ⟨F.fb, 1, none⟩ = false := hF6.core.blk.free 1
                  have x5 : (w6.setCell ⟨F.fb, 1, none⟩ (.slice v.sa p0 v.sc)).cell? ⟨F.fb, 5, none⟩ = some (.slice v.aa v.all.length v.ac) := hF7.core.blk.cell 5
                  have Hr0 : Hid (Own (w6.setCell ⟨F.fb, 1, none⟩ (.slice v.sa p0 v.sc)) F.W.heap.size 9 1 ag (srt zs).length cg ((srt zs).map strV)) := Lib.hid ((hog.setCell_row (hF6.core.fbRow hog (by decide)) _).mono HD.out.core.below.size)
                  have Hap : Hid (0 < cg → 0 < v.sc → blockOf ag ≠ blockOf v.sa) := Lib.hid fun h1 h2 e => by
                    obtain ⟨g, off, hgo⟩ := hst6.addr h2
                    have h3 := hrs g h2 (by rw [hgo]; rfl)
                    have h4 := hag g h1 (by rw [e, hgo]; rfl)
                    omega
                  have Hris : Hid ((srt zs).Pairwise fun x y => x < y) := Lib.hid (srt_rising Hnd2.out)
                  have hgl : (srt zs).length ≤ 1048576 := by have := Hm0.out; omega
                  have HF7 := Lib.hid hF7
                  have Hall : Hid (v.all.length ≤ 1048576) := Lib.hid (Nat.le_trans (hF.out.allLe HL.out.inv) hkl)
                  have hall := Hall.out
                  have hwf := hF7.core.below.size
                  clear hF6 hag hrs hst6 htake hF7 hog hb6 q1
                  go_wp2_with (first
                    | ((with_reducible show wpList _ _ _ _ _ _); refine wpList_slice_to (o := ⟨some 140, _, _, _, _, _⟩) rfl _ _ _ rfl 9 1 Try.underlying28 sizeStr _ _ _ rfl _ (p0 : Int) rfl (by omega) (by omega) ?_; simp only [Int.toNat_natCast])
                    | (at_builtin; refine wpList_append_Own (o := ⟨some 150, _, _, _, _, _⟩) rfl _ _ 38 rfl F.W.heap.size 28 _ 1 24 Try.underlying38 infoStrs rfl (by decide) v.aa v.all.length v.ac _ rfl (by exact HF7.out.core.al.alloc _) _ 1 1 [.slice ag (srt zs).length cg] rfl (Row.new1 (by simp) rfl rfl) (by intro u hu; simp at hu; subst hu; rfl) (by unfold maxLen; omega) (by omega) (Nat.le_trans hwf (by simp)) ?_; intro a8 c8 w8 hown8 hg8 hbk8; have hb8 : Blk w8 F.fb (F.cells _ _) _ := (HF7.out.core.blk.alloc _).grown hg8 (fun e => HF7.out.core.fbRow HF7.out.core.al (by decide) e.symm); have f8 := hb8.free 5; have g8 : w8.cell? ⟨F.fb, 5, none⟩ = some (.slice v.aa v.all.length v.ac) := hb8.cell 5; have HF8 := Lib.hid ((HF7.out.ext (below_a1 _ _)).allG HO.out (r := ⟨srt zs, ag, cg⟩) (Hr0.out.alloc _) Hap.out Hris.out hown8 hg8); clear hown8 hg8 hbk8 hb8))
                  clear x1 xf x5 f8 g8
                  obtain ⟨rg, hrg⟩ : ∃ rg, rg = ag := ⟨_, rfl⟩
                  rw [← hrg]
                  have Hrg := Lib.hid hrg
                  clear hrg
                  go_loopw [155] (fun i wq => ∃ (k : Nat) (v9 : FV) (gk : Nm → Nat), k ≤ (srt zs).length ∧ i = .int .i64 k ∧ Hid (FSt F v9 wq { t with stack := pre, all := t.all ++ [srt zs], grp := gk }) ∧ Hid (∀ x, gk x = if x ∈ (srt zs).take k then t.all.length + 1 else t.grp x) ∧ Hid ((⟨srt zs, ag, cg⟩ : RowD) ∈ v9.all)) (fun i _ => (srt zs).length - (intOf i).toNat)
                  case atStart => exact ⟨0, _, t.grp, Nat.zero_le _, rfl, HF8, Lib.hid fun x => by simp, Lib.hid (by show _ ∈ v.all ++ [_]; simp)⟩
                  case round =>
                    clear HF8
                    obtain ⟨k9, v9, gk, hk9l, rfl, hF9, hk9, hr9⟩ := hrel
                    by_cases hlt9 : k9 < (srt zs).length
                    · obtain ⟨x9, hx9⟩ := get_some hlt9
                      have hrow9 := (hF9.out.core.rows _ hr9.out).row
                      dsimp only at hrow9
                      rw [← Hrg.out] at hrow9
                      obtain ⟨b9, off9, hrg9, cc9⟩ := str_at hrow9 hx9
                      clear hrow9
                      have Hrg' : Hid (some ⟨b9, off9, none⟩ = ag) := Lib.hid (by rw [← hrg9]; exact Hrg.out)
                      clear Hrg
                      subst hrg9
                      have hm9 : x9 ∈ zs := mem_srt.1 (List.mem_of_getElem? hx9)
                      have hs9 : x9 ∈ t.stack := by rw [Hst.out]; rw [Hzs.out] at hm9; simp at hm9 ⊢; rcases hm9 with h | h <;> simp [h]
                      have Hxd : Hid (x9 ∈ v9.dks) := Lib.hid ((hF9.out.dk x9).2 ((HL.out.inv.on x9).1 hs9).1)
                      have Hxl : Hid (x9.length ≤ maxLen) := Lib.hid (HO.out.rows.map.klen x9 (hF9.out.dsub x9 Hxd.out))
                      have Hal9 : Hid (v9.all.length = t.all.length + 1) := Lib.hid (by have := congrArg List.length hF9.out.sall; simp at this; omega)
                      have Hx9 := Lib.hid hx9
                      have z4 : wr.cell? ⟨F.fb, 4, none⟩ = some (.map (some F.gm)) := hF9.out.drew.core.blk.cell 4
                      have z5 : wr.cell? ⟨F.fb, 5, none⟩ = some (.slice v9.aa v9.all.length v9.ac) := hF9.out.drew.core.blk.cell 5
                      clear hx9 hm9 hs9
                      go_wp2_with fail
                      refine wp_region_held_drew (S := fun w' => w'.cell? ⟨F.fb, 4, none⟩ = some (.map (some F.gm)) ∧ w'.cell? ⟨F.fb, 5, none⟩ = some (.slice v9.aa v9.all.length v9.ac)) (by kernel_rfl) ?_ (fun hHeld => ?_)
                      · exact ⟨z4, z5⟩
                      refine wpAnyH_take (i := 0) (oi := ⟨some 159, _, _, _, _, _⟩) (v := ?_) rfl (by kernel_rfl) (by kernel_rfl) (by kernel_rfl) (fun _ _ _ h => h) (Or.inl ⟨by rfl, ?_⟩) (by assumption) ?_; rotate_left; focus (intro w hSw; (try dsimp only at hSw); first | (go_simp; done) | (go_simp; with_reducible rfl))
                      try simp only [Act.put]
                      try simp only [List.setIfInBounds_toArray]
                      try simp only [List.set_cons_succ, List.set_cons_zero]
                      refine wpAnyH_take (i := 1) (oi := ⟨some 160, _, _, _, _, _⟩) (v := ?_) rfl (by kernel_rfl) (by kernel_rfl) (by kernel_rfl) (fun _ _ _ h => h) (Or.inl ⟨by rfl, ?_⟩) (by assumption) ?_; rotate_left; focus (intro w hSw; (try dsimp only at hSw); first | (go_simp; done) | (go_simp; with_reducible rfl))
                      try simp only [Act.put]
                      try simp only [List.setIfInBounds_toArray]
                      try simp only [List.set_cons_succ, List.set_cons_zero]
                      refine wpAnyH_take (i := 2) (oi := ⟨some 161, _, _, _, _, _⟩) (v := ?_) rfl (by kernel_rfl) (by kernel_rfl) (by kernel_rfl) (fun _ _ _ h => h) (Or.inl ⟨by rfl, ?_⟩) (by assumption) ?_; rotate_left; focus (intro w hSw; (try dsimp only at hSw); first | (go_simp; done) | (go_simp; with_reducible rfl))
                      try simp only [Act.put]
                      try simp only [List.setIfInBounds_toArray]
                      try simp only [List.set_cons_succ, List.set_cons_zero]
                      refine wpAnyH_take (i := 3) (oi := ⟨some 162, _, _, _, _, _⟩) (v := ?_) rfl (by kernel_rfl) (by kernel_rfl) (by kernel_rfl) (fun _ _ _ h => h) (Or.inl ⟨by rfl, ?_⟩) (by assumption) ?_; rotate_left; focus (intro w hSw; (try dsimp only at hSw); first | (go_simp; done) | (go_simp; with_reducible rfl))
                      try simp only [Act.put]
                      try simp only [List.setIfInBounds_toArray]
                      try simp only [List.set_cons_succ, List.set_cons_zero]
                      refine wpAnyH_take (i := 4) (oi := ⟨some 163, _, _, _, _, _⟩) (v := ?_) rfl (by kernel_rfl) (by kernel_rfl) (by kernel_rfl) (fun _ _ _ h => h) (Or.inl ⟨by rfl, ?_⟩) (by assumption) ?_; rotate_left; focus (intro w hSw; (try dsimp only at hSw); first | (go_simp; done) | (go_simp; with_reducible rfl))
                      try simp only [Act.put]
                      try simp only [List.setIfInBounds_toArray]
                      try simp only [List.set_cons_succ, List.set_cons_zero]
                      refine wpAnyH_take (i := 5) (oi := ⟨some 164, _, _, _, _, _⟩) (v := ?_) rfl (by kernel_rfl) (by kernel_rfl) (by kernel_rfl) (fun _ _ _ h => h) (Or.inl ⟨by rfl, ?_⟩) (by assumption) ?_; rotate_left; focus (intro w hSw; (try dsimp only at hSw); first | (go_simp; done) | (go_simp; with_reducible rfl))
                      try simp only [Act.put]
                      try simp only [List.setIfInBounds_toArray]
                      try simp only [List.set_cons_succ, List.set_cons_zero]
                      refine wpAnyH_take (i := 6) (oi := ⟨some 165, _, _, _, _, _⟩) (v := ?_) rfl (by kernel_rfl) (by kernel_rfl) (by kernel_rfl) (fun _ _ _ h => h) (Or.inl ⟨by rfl, ?_⟩) (by assumption) ?_; rotate_left; focus (intro w hSw; (try dsimp only at hSw); first | (go_simp; done) | (go_simp; with_reducible rfl))
                      try simp only [Act.put]
                      try simp only [List.setIfInBounds_toArray]
                      try simp only [List.set_cons_succ, List.set_cons_zero]
                      refine wpAnyH_take (i := 7) (oi := ⟨some 166, _, _, _, _, _⟩) (v := ?_) rfl (by kernel_rfl) (by kernel_rfl) (by kernel_rfl) (fun _ _ _ h => h) (Or.inl ⟨by rfl, ?_⟩) (by assumption) ?_; rotate_left; focus (intro w hSw; (try dsimp only at hSw); first | (go_simp; done) | (go_simp; with_reducible rfl))
                      try simp only [Act.put]
                      try simp only [List.setIfInBounds_toArray]
                      try simp only [List.set_cons_succ, List.set_cons_zero]
                      refine wpAnyH_take (i := 8) (oi := ⟨some 167, _, _, _, _, _⟩) (v := ?_) rfl (by kernel_rfl) (by kernel_rfl) (by kernel_rfl) (fun _ _ _ h => h) (Or.inl ⟨by rfl, ?_⟩) (by assumption) ?_; rotate_left; focus (intro w hSw; (try dsimp only at hSw); first | (go_simp; done) | (go_simp; with_reducible rfl))
                      try simp only [Act.put]
                      try simp only [List.setIfInBounds_toArray]
                      try simp only [List.set_cons_succ, List.set_cons_zero]
                      refine wpAnyH_take (i := 9) (oi := ⟨some 168, _, _, _, _, _⟩) (v := ?_) rfl (by kernel_rfl) (by kernel_rfl) (by kernel_rfl) (fun _ _ _ h => h) (Or.inl ⟨by rfl, ?_⟩) (by assumption) ?_; rotate_left; focus (intro w hSw; (try dsimp only at hSw); first | (go_simp; done) | (go_simp; with_reducible rfl))
                      try simp only [Act.put]
                      try simp only [List.setIfInBounds_toArray]
                      try simp only [List.set_cons_succ, List.set_cons_zero]
                      refine wpAnyH_ready (rs := [10]) (by kernel_rfl) (by simp) ?_
                      refine AllReadyH.cons (i := 10) (o := ⟨none, _, _, _, _, _⟩) rfl (fun K hK => ?_) ?_
                      · refine step_storeI rfl (.tmp 162) (.tmp 163) (.tmp 168) rfl (by exact hF9.out.drew.grp) Hxl.out (by have := hF9.out.gksLe; unfold maxLen; omega) (by simp [go_sem]) (by simp [go_sem]) (val := t.all.length + 1) (by simp [go_sem, Hal9.out]) ?_
                        intro w10 hs10 hg10 hz10
                        have HF10 := Lib.hid (hF9.out.drew.grpS HO.out Hxd.out hs10 hg10)
                        have y4 : w10.cell? ⟨F.fb, 4, none⟩ = some (.map (some F.gm)) := HF10.out.core.blk.cell 4
                        have y5 : w10.cell? ⟨F.fb, 5, none⟩ = some (.slice v9.aa v9.all.length v9.ac) := HF10.out.core.blk.cell 5
                        clear hs10 hg10 hz10
                        refine hK.out _ _ ?_ (fun hHeld => ?_)
                        · exact ⟨y4, y5⟩
                        try simp only [Act.put]
                        try simp only [List.setIfInBounds_toArray]
                        try simp only [List.set_cons_succ, List.set_cons_zero]
                        refine wpAnyH_done (by kernel_rfl) ?_ _
                        clear hHeld y4 y5 z4 z5
                        go_wp2
                        go_roundw
                        case rel =>
                          refine ⟨k9 + 1, _, _, by omega, by go_num, HF10, Lib.hid fun y => ?_, hr9⟩
                          rw [List.take_add_one, Hx9.out]
                          by_cases hy : y = x9
                          · subst hy; rw [upd_same, if_pos (by simp)]
                          · rw [upd_other _ _ hy]
                            dsimp only
                            rw [hk9.out y]
                            by_cases h2 : y ∈ (srt zs).take k9
                            · rw [if_pos h2, if_pos (by simp [h2])]
                            · rw [if_neg h2, if_neg (by simp [h2, hy])]
                        case measure => simp [intOf]; omega
                      exact AllReadyH.nil
                    · obtain rfl : k9 = (srt zs).length := by omega
                      go_wp2
                      go_end0
                      refine ⟨rfl, v9, t.pop pre (srt zs), ?_, (HL.out.pop HT.out H0.out Hnlt.out Hst.out (fun x => by rw [mem_srt, Hzs.out])).1⟩
                      have e : gk = (t.pop pre (srt zs)).grp := funext fun x => by
                        rw [hk9.out x, List.take_length]
                        by_cases h : x ∈ srt zs
                        · simp [TSt.pop, h]
                        · simp [TSt.pop, h]
                      have := hF9.out
                      rw [e] at this; exact this
          exact AllReadyH.nil
        exact AllReadyH.nil
      exact AllReadyH.nil
    exact AllReadyH.nil
end Go.Proofs.Ytnepamdmjppglaa
