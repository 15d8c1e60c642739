/- ValueWrites: walked. -/
import Derived.Test.YtahiopjplfnlmaaGreatDoorRefC
import Derived.Test.YtahiopjplfnlmaaGreatDoorOfV
import Derived.Test.YtahiopjplfnlmaaGreatDoorAliv
import Derived.Deep.RegionHeld3
namespace Go.Proofs.YtahiopjplfnlmaaGreatDoor
open Go Go.RowKit

theorem to_end {W : World} {tm : Array Value} {R : Ending → World → Prop} {g : Nat} {u0 u1 u2 u3 u4 u5 : Value} (h2 : tm.getD 2 undef = .pointer (some ⟨g, 0, none⟩)) (hB : Blk W g #[u0, u1, u2, u3, u4, u5] 26)
    (hR : R (.returned (.agg #[u0, u1, u2, u3, u4, u5])) W) : bodyPost Tryz.prog Tryz.f15 R .ret { tmps := tm, defers := [] } W := by
  obtain ⟨d0, d1, d2, d3, d4, d5⟩ := hB.sixT
  rw [Array.getD_eq_getD_getElem?] at h2
  refine bodyPost_ret (v := .agg #[u0, u1, u2, u3, u4, u5]) ?_ rfl hR
  simp [results, Tryz.results15, go_sem, h2, d0, d1, d2, d3, d4, d5]
set_option maxHeartbeats 8000000 in
theorem to_any (d : VD) : ∀ (B : Nat) (W : World), B ≤ W.heap.size → ValAt W (fun k => k < B) d → sizeV d.v ≤ 1048576 → Calls Tryz.prog 15 #[d.val] W (OfE B W d.v) := by
  induction d using VD.ind with
  | h s o n t a c ks ka kc keys ih =>
    intro B W hBW h hw
    have hks : ks.length ≤ 1048576 := by
      have h1 := sizeV_eq (.mk s o n t a c ks ka kc keys)
      have h2 := sizesV_len (ks.map VD.v)
      simp only [VD.list, List.length_map] at h1 h2
      omega
    have HV := Lib.hid h
    have HI : Hid (∀ x ∈ ks, ∀ V, W.heap.size ≤ V.heap.size → ValAt V (fun k => k < B) x → Calls Tryz.prog 15 #[x.val] V (OfE B V x.v)) := Lib.hid fun x hx V hV hv => ih x hx B V (by omega) hv (by
      have h1 := sizeV_eq (.mk s o n t a c ks ka kc keys)
      have h2 := sizesV_mem (l := ks.map VD.v) (List.mem_map_of_mem hx)
      simp only [VD.list] at h1
      omega)
    clear ih h hw
    have hst := OV.start 26 34 B W (.mk s o n t a c ks ka kc keys)
    unfold box3V at hst
    simp only [VD.sort, VD.on, VD.n, VD.text, VD.a, VD.list, VD.c, VD.ka, VD.keys, VD.kc] at hst
    have HST := Lib.hid hst
    clear hst
    unfold VD.val VD.cells strV
    go_enter Tryz.func15, Tryz.ntmps15
    go_wp2_with fail
    go_loopw [4] (fun i wr => ∃ (vs : List VD) (la : Option Addr) (lc : Nat), vs.length ≤ ks.length ∧ i = .int .i64 vs.length ∧ Hid (OV 26 34 B W wr (VD.mk s o n t a c ks ka kc keys) vs la lc) ∧ Hid (vs.map VD.v = (ks.take vs.length).map VD.v)) (fun i _ => ks.length - (intOf i).toNat)
    case atStart => exact ⟨[], none, 0, Nat.zero_le _, rfl, HST, Lib.hid rfl⟩
    case round =>
      obtain ⟨vs, la, lc, hq, rfl, HO, HE⟩ := hrel
      have hwr := HO.out.blk.lt
      by_cases hlt : vs.length < ks.length
      · obtain ⟨x, hx⟩ := get_some hlt
        have hxm := List.mem_of_getElem? hx
        have hvr := (HV.out.ext HO.out.below)
        obtain ⟨eb, eo, ha, c0, c1, c2, c3, c4, c5⟩ := val_at hvr.row hx
        simp only [VD.a] at ha
        subst ha
        unfold strV at c3
        have hebB : eb < B := hvr.blk eb (by simp only [VD.list]; omega) rfl
        have a4 : wr.cell? ⟨W.heap.size, 4, none⟩ = some (.slice (some ⟨eb, eo, none⟩) ks.length c) := HO.out.arg.cell 4
        have HS : Hid (∀ w' : World, (∀ k, k ≤ W.heap.size → w'.heap[k]? = wr.heap[k]?) → w'.cell? ⟨W.heap.size, 4, none⟩ = some (.slice (some ⟨eb, eo, none⟩) ks.length c) ∧ w'.cell? ⟨eb, eo + vs.length * 6, none⟩ = some (.int .i64 x.sort) ∧ w'.cell? ⟨eb, eo + vs.length * 6 + 1, none⟩ = some (.bool x.on) ∧ w'.cell? ⟨eb, eo + vs.length * 6 + 2, none⟩ = some (.int .i64 x.n) ∧ w'.cell? ⟨eb, eo + vs.length * 6 + 3, none⟩ = some (.string ⟨x.text.toArray⟩) ∧ w'.cell? ⟨eb, eo + vs.length * 6 + 4, none⟩ = some (.slice x.a x.list.length x.c) ∧ w'.cell? ⟨eb, eo + vs.length * 6 + 5, none⟩ = some (.slice x.ka x.keys.length x.kc)) := Lib.hid fun w' hw => by
          have k : ∀ g j, g ≤ W.heap.size → w'.cell? ⟨g, j, none⟩ = wr.cell? ⟨g, j, none⟩ := fun g j hg => World.cell?_of_block (w := wr) (a := ⟨g, j, none⟩) (hw g hg)
          exact ⟨(k _ _ (Nat.le_refl _)).trans a4, (k _ _ (by omega)).trans c0, (k _ _ (by omega)).trans c1, (k _ _ (by omega)).trans c2, (k _ _ (by omega)).trans c3, (k _ _ (by omega)).trans c4, (k _ _ (by omega)).trans c5⟩
        have HT : Hid ((ks.take (vs.length + 1)).map VD.v = (ks.take vs.length).map VD.v ++ [x.v]) := Lib.hid (by rw [List.take_add_one, hx, Option.toList_some, List.map_append]; rfl)
        have hdr : Below wr.heap.size wr wr.drew := (Below.refl _ _).drew
        have HO1 := Lib.hid (HO.out.ext hdr)
        have hc := HI.out x hxm wr.drew HO1.out.below.size ((hvr.kid x hxm).ext hdr)
        rw [VD.val6] at hc
        have Hc := Lib.hid hc
        have hq0 := HO1.out.blk.cell 4
        clear hdr hc hx hxm hvr hebB
        go_upto_region 5 with (fail)
        refine wp_region_held_drew (S := fun w' => w'.cell? ⟨W.heap.size, 4, none⟩ = some (.slice (some ⟨eb, eo, none⟩) ks.length c) ∧ w'.cell? ⟨eb, eo + vs.length * 6, none⟩ = some (.int .i64 x.sort) ∧ w'.cell? ⟨eb, eo + vs.length * 6 + 1, none⟩ = some (.bool x.on) ∧ w'.cell? ⟨eb, eo + vs.length * 6 + 2, none⟩ = some (.int .i64 x.n) ∧ w'.cell? ⟨eb, eo + vs.length * 6 + 3, none⟩ = some (.string ⟨x.text.toArray⟩) ∧ w'.cell? ⟨eb, eo + vs.length * 6 + 4, none⟩ = some (.slice x.a x.list.length x.c) ∧ w'.cell? ⟨eb, eo + vs.length * 6 + 5, none⟩ = some (.slice x.ka x.keys.length x.kc)) (by kernel_rfl) ?_ (fun hHeld => ?_)
        · exact HS.out _ (fun _ _ => rfl)
        refine wpAnyH_take (i := 0) (oi := ⟨some 23, _, _, _, _, _⟩) (v := ?_) rfl (by kernel_rfl) (by kernel_rfl) (by kernel_rfl) (fun _ _ _ h => h) (Or.inl ⟨by rfl, ?_⟩) (by assumption) ?_; rotate_left; focus (intro w hSw; (try dsimp only at hSw); first | (go_simp; done) | (go_simp; with_reducible rfl))
        try simp only [Act.put]
        try simp only [List.setIfInBounds_toArray]
        try simp only [List.set_cons_succ, List.set_cons_zero]
        refine wpAnyH_take (i := 2) (oi := ⟨some 25, _, _, _, _, _⟩) (v := ?_) rfl (by kernel_rfl) (by kernel_rfl) (by kernel_rfl) (fun _ _ _ h => h) (Or.inl ⟨by rfl, ?_⟩) (by assumption) ?_; rotate_left; focus (intro w hSw; (try dsimp only at hSw); first | (go_simp; done) | (go_simp; with_reducible rfl))
        try simp only [Act.put]
        try simp only [List.setIfInBounds_toArray]
        try simp only [List.set_cons_succ, List.set_cons_zero]
        refine wpAnyH_take (i := 3) (oi := ⟨some 26, _, _, _, _, _⟩) (v := ?_) rfl (by kernel_rfl) (by kernel_rfl) (by kernel_rfl) (fun _ _ _ h => h) (Or.inl ⟨by rfl, ?_⟩) (by assumption) ?_; rotate_left; focus (intro w hSw; (try dsimp only at hSw); obtain ⟨s4, s0, s1, s2, s3, s5, s6⟩ := hSw; first | (go_simp; done) | (go_simp; with_reducible rfl))
        try simp only [Act.put]
        try simp only [List.setIfInBounds_toArray]
        try simp only [List.set_cons_succ, List.set_cons_zero]
        refine wpAnyH_take (i := 4) (oi := ⟨some 27, _, _, _, _, _⟩) (v := ?_) rfl (by kernel_rfl) (by kernel_rfl) (by kernel_rfl) (fun _ _ _ h => h) (Or.inl ⟨by rfl, ?_⟩) (by assumption) ?_; rotate_left; focus (intro w hSw; (try dsimp only at hSw); first | (go_simp; done) | (go_simp; with_reducible rfl))
        try simp only [Act.put]
        try simp only [List.setIfInBounds_toArray]
        try simp only [List.set_cons_succ, List.set_cons_zero]
        refine wpAnyH_take (i := 5) (oi := ⟨some 28, _, _, _, _, _⟩) (v := ?_) rfl (by kernel_rfl) (by kernel_rfl) (by kernel_rfl) (fun _ _ _ h => h) (Or.inl ⟨by rfl, ?_⟩) (by assumption) ?_; rotate_left; focus (intro w hSw; (try dsimp only at hSw); first | (go_simp; done) | (go_simp; with_reducible rfl))
        try simp only [Act.put]
        try simp only [List.setIfInBounds_toArray]
        try simp only [List.set_cons_succ, List.set_cons_zero]
        refine wpAnyH_take (i := 6) (oi := ⟨some 29, _, _, _, _, _⟩) (v := ?_) rfl (by kernel_rfl) (by kernel_rfl) (by kernel_rfl) (fun _ _ _ h => h) (Or.inl ⟨by rfl, ?_⟩) (by assumption) ?_; rotate_left; focus (intro w hSw; (try dsimp only at hSw); obtain ⟨s4, s0, s1, s2, s3, s5, s6⟩ := hSw; first | (go_simp; done) | (go_simp; with_reducible rfl))
        try simp only [Act.put]
        try simp only [List.setIfInBounds_toArray]
        try simp only [List.set_cons_succ, List.set_cons_zero]
        refine wpAnyH_ready (rs := [1, 7]) (by kernel_rfl) (by simp) ?_
        refine AllReadyH.cons (i := 1) (o := ⟨some 24, _, _, _, _, _⟩) rfl (fun K hK => ?_) ?_
        · go_simp
          refine hK.out _ _ ?_ (fun hHeld => ?_)
          · exact hHeld
          try simp only [Act.put]
          try simp only [List.setIfInBounds_toArray]
          try simp only [List.set_cons_succ, List.set_cons_zero]
          refine wpAnyH_ready (rs := [7]) (by kernel_rfl) (by simp) ?_
          refine AllReadyH.cons (i := 7) (o := ⟨some 30, _, _, _, _, _⟩) rfl (fun K hK => ?_) ?_
          · go_simp
            refine Hc.out.mono ?_
            rintro e w2 ⟨d2, rfl, hd2, hva2, hb2⟩
            have HO2 := Lib.hid (HO1.out.ext hb2)
            have Hown2 := Lib.hid HO2.out.own
            have HB2 := Lib.hid hb2
            have HVA2 := Lib.hid hva2
            have HD2 := Lib.hid hd2
            have hws2 := HO2.out.blk.lt
            have hq2 := HO2.out.blk.cell 4
            have HH2 : Hid (∀ k, k ≤ W.heap.size → w2.heap[k]? = wr.heap[k]?) := Lib.hid fun k hk => hb2.block k (show k < wr.heap.size by omega)
            have hq3 := (HO2.out.blk.alloc (.cells #[.int .i64 d2.sort, .bool d2.on, .int .i64 d2.n, .string ⟨d2.text.toArray⟩, .slice d2.a d2.list.length d2.c, .slice d2.ka d2.keys.length d2.kc] 26)).cell 4
            have HH3 : Hid (∀ k, k ≤ W.heap.size → (w2.alloc (.cells #[.int .i64 d2.sort, .bool d2.on, .int .i64 d2.n, .string ⟨d2.text.toArray⟩, .slice d2.a d2.list.length d2.c, .slice d2.ka d2.keys.length d2.kc] 26)).heap[k]? = wr.heap[k]?) := Lib.hid fun k hk => (Below.heap_alloc _ _ k (by omega)).trans (HH2.out k hk)
            clear hb2 hva2 hd2
            refine hK.out _ _ ?_ (fun hHeld => ?_)
            · exact HS.out _ HH2.out
            try simp only [Act.put]
            try simp only [List.setIfInBounds_toArray]
            try simp only [List.set_cons_succ, List.set_cons_zero]
            refine wpAnyH_ready (rs := [8]) (by kernel_rfl) (by simp) ?_
            refine AllReadyH.cons (i := 8) (o := ⟨some 31, _, _, _, _, _⟩) rfl (fun K hK => ?_) ?_
            · go_simp
              refine hK.out _ _ ?_ (fun hHeld => ?_)
              · exact HS.out _ HH3.out
              try simp only [Act.put]
              try simp only [List.setIfInBounds_toArray]
              try simp only [List.set_cons_succ, List.set_cons_zero]
              refine wpAnyH_ready (rs := [9]) (by kernel_rfl) (by simp) ?_
              refine AllReadyH.cons (i := 9) (o := ⟨some 32, _, _, _, _, _⟩) rfl (fun K hK => ?_) ?_
              · refine step_append_Own rfl (.tmp 24) (.tmp 31) 23 rfl (W.heap.size + 3) 26 _ 6 88 Tryz.underlying23 Tryz.infoDoc rfl (by decide) la vs.length lc _ (by simp [go_sem]) (by exact Hown2.out.alloc _) _ 1 1 [.int .i64 d2.sort, .bool d2.on, .int .i64 d2.n, .string ⟨d2.text.toArray⟩, .slice d2.a d2.list.length d2.c, .slice d2.ka d2.keys.length d2.kc] (by simp [go_sem]; rfl) (by exact Row.new1 (by simp) rfl rfl) (by intro u hu; simp at hu; rcases hu with rfl | rfl | rfl | rfl | rfl | rfl <;> rfl) (by unfold maxLen; omega) (by omega) (by simp; omega) ?_
                intro a6 c6 w6 hown6 hg6 hbk6
                have HO6 := Lib.hid hown6
                have HG6 := Lib.hid hg6
                have HK6 := Lib.hid hbk6
                have HH6 : Hid (∀ k, k ≤ W.heap.size → w6.heap[k]? = wr.heap[k]?) := Lib.hid fun k hk => (hg6.block k (by simp; omega) (fun e => HO2.out.own.apart (by omega) e)).trans (HH3.out k hk)
                have HH7 : Hid (∀ k, k ≤ W.heap.size → (w6.setCell ⟨W.heap.size + 2, 4, none⟩ (.slice a6 (vs.length + 1) c6)).heap[k]? = wr.heap[k]?) := Lib.hid fun k hk => (Below.heap_setCell _ ⟨W.heap.size + 2, 4, none⟩ _ k (by show k ≠ W.heap.size + 2; omega)).trans (HH6.out k hk)
                have hb6 : Blk w6 (W.heap.size + 2) #[.int .i64 s, .bool o, .int .i64 n, .string ⟨t.toArray⟩, .slice la vs.length lc, .slice ka keys.length kc] 26 := (hg6.block (W.heap.size + 2) (by simp; omega) (fun e => HO2.out.own.apart (by omega) e)).trans (HO2.out.blk.alloc _)
                have hq6 := hb6.cell 4
                have hf6 := hb6.free 4
                clear hown6 hg6 hbk6 hb6
                refine hK.out _ _ ?_ (fun hHeld => ?_)
                · exact HS.out _ HH6.out
                try simp only [Act.put]
                try simp only [List.setIfInBounds_toArray]
                try simp only [List.set_cons_succ, List.set_cons_zero]
                refine wpAnyH_take (i := 10) (oi := ⟨some 33, _, _, _, _, _⟩) (v := ?_) rfl (by kernel_rfl) (by kernel_rfl) (by kernel_rfl) (fun _ _ _ h => h) (Or.inl ⟨by rfl, ?_⟩) (by assumption) ?_; rotate_left; focus (intro w hSw; (try dsimp only at hSw); first | (go_simp; done) | (go_simp; with_reducible rfl))
                try simp only [Act.put]
                try simp only [List.setIfInBounds_toArray]
                try simp only [List.set_cons_succ, List.set_cons_zero]
                refine wpAnyH_ready (rs := [11]) (by kernel_rfl) (by simp) ?_
                refine AllReadyH.cons (i := 11) (o := ⟨none, _, _, _, _, _⟩) rfl (fun K hK => ?_) ?_
                · go_simp
                  refine hK.out _ _ ?_ (fun hHeld => ?_)
                  · exact HS.out _ HH7.out
                  try simp only [Act.put]
                  try simp only [List.setIfInBounds_toArray]
                  try simp only [List.set_cons_succ, List.set_cons_zero]
                  refine wpAnyH_done (by kernel_rfl) ?_ _
                  have HN : Hid (OV 26 34 B W (w6.setCell ⟨W.heap.size + 2, 4, none⟩ (.slice a6 (vs.length + 1) c6)) (VD.mk s o n t (some ⟨eb, eo, none⟩) c ks ka kc keys) (vs ++ [d2]) a6 c6) := Lib.hid (HO1.out.push hBW HB2.out HVA2.out _ (by rw [List.flatMap_append, List.flatMap_singleton, cells_list]; exact HO6.out) HG6.out HK6.out)
                  go_wp2
                  go_roundw
                  case rel => exact ⟨vs ++ [d2], a6, c6, by rw [List.length_append]; exact hlt, by rw [List.length_append]; go_num, HN, Lib.hid (by rw [List.length_append, List.map_append, HE.out]; simp [HT.out, HD2.out])⟩
                  case measure => simp [intOf]; omega
                exact AllReadyH.nil
              exact AllReadyH.nil
            exact AllReadyH.nil
          exact AllReadyH.nil
        refine AllReadyH.cons (i := 7) (o := ⟨some 30, _, _, _, _, _⟩) rfl (fun K hK => ?_) ?_
        · go_simp
          refine Hc.out.mono ?_
          rintro e w2 ⟨d2, rfl, hd2, hva2, hb2⟩
          have HO2 := Lib.hid (HO1.out.ext hb2)
          have Hown2 := Lib.hid HO2.out.own
          have HB2 := Lib.hid hb2
          have HVA2 := Lib.hid hva2
          have HD2 := Lib.hid hd2
          have hws2 := HO2.out.blk.lt
          have hq2 := HO2.out.blk.cell 4
          have HH2 : Hid (∀ k, k ≤ W.heap.size → w2.heap[k]? = wr.heap[k]?) := Lib.hid fun k hk => hb2.block k (show k < wr.heap.size by omega)
          have hq3 := (HO2.out.blk.alloc (.cells #[.int .i64 d2.sort, .bool d2.on, .int .i64 d2.n, .string ⟨d2.text.toArray⟩, .slice d2.a d2.list.length d2.c, .slice d2.ka d2.keys.length d2.kc] 26)).cell 4
          have HH3 : Hid (∀ k, k ≤ W.heap.size → (w2.alloc (.cells #[.int .i64 d2.sort, .bool d2.on, .int .i64 d2.n, .string ⟨d2.text.toArray⟩, .slice d2.a d2.list.length d2.c, .slice d2.ka d2.keys.length d2.kc] 26)).heap[k]? = wr.heap[k]?) := Lib.hid fun k hk => (Below.heap_alloc _ _ k (by omega)).trans (HH2.out k hk)
          clear hb2 hva2 hd2
          refine hK.out _ _ ?_ (fun hHeld => ?_)
          · exact HS.out _ HH2.out
          try simp only [Act.put]
          try simp only [List.setIfInBounds_toArray]
          try simp only [List.set_cons_succ, List.set_cons_zero]
          refine wpAnyH_ready (rs := [1, 8]) (by kernel_rfl) (by simp) ?_
          refine AllReadyH.cons (i := 1) (o := ⟨some 24, _, _, _, _, _⟩) rfl (fun K hK => ?_) ?_
          · go_simp
            refine hK.out _ _ ?_ (fun hHeld => ?_)
            · exact hHeld
            try simp only [Act.put]
            try simp only [List.setIfInBounds_toArray]
            try simp only [List.set_cons_succ, List.set_cons_zero]
            refine wpAnyH_ready (rs := [8]) (by kernel_rfl) (by simp) ?_
            refine AllReadyH.cons (i := 8) (o := ⟨some 31, _, _, _, _, _⟩) rfl (fun K hK => ?_) ?_
            · go_simp
              refine hK.out _ _ ?_ (fun hHeld => ?_)
              · exact HS.out _ HH3.out
              try simp only [Act.put]
              try simp only [List.setIfInBounds_toArray]
              try simp only [List.set_cons_succ, List.set_cons_zero]
              refine wpAnyH_ready (rs := [9]) (by kernel_rfl) (by simp) ?_
              refine AllReadyH.cons (i := 9) (o := ⟨some 32, _, _, _, _, _⟩) rfl (fun K hK => ?_) ?_
              · refine step_append_Own rfl (.tmp 24) (.tmp 31) 23 rfl (W.heap.size + 3) 26 _ 6 88 Tryz.underlying23 Tryz.infoDoc rfl (by decide) la vs.length lc _ (by simp [go_sem]) (by exact Hown2.out.alloc _) _ 1 1 [.int .i64 d2.sort, .bool d2.on, .int .i64 d2.n, .string ⟨d2.text.toArray⟩, .slice d2.a d2.list.length d2.c, .slice d2.ka d2.keys.length d2.kc] (by simp [go_sem]; rfl) (by exact Row.new1 (by simp) rfl rfl) (by intro u hu; simp at hu; rcases hu with rfl | rfl | rfl | rfl | rfl | rfl <;> rfl) (by unfold maxLen; omega) (by omega) (by simp; omega) ?_
                intro a6 c6 w6 hown6 hg6 hbk6
                have HO6 := Lib.hid hown6
                have HG6 := Lib.hid hg6
                have HK6 := Lib.hid hbk6
                have HH6 : Hid (∀ k, k ≤ W.heap.size → w6.heap[k]? = wr.heap[k]?) := Lib.hid fun k hk => (hg6.block k (by simp; omega) (fun e => HO2.out.own.apart (by omega) e)).trans (HH3.out k hk)
                have HH7 : Hid (∀ k, k ≤ W.heap.size → (w6.setCell ⟨W.heap.size + 2, 4, none⟩ (.slice a6 (vs.length + 1) c6)).heap[k]? = wr.heap[k]?) := Lib.hid fun k hk => (Below.heap_setCell _ ⟨W.heap.size + 2, 4, none⟩ _ k (by show k ≠ W.heap.size + 2; omega)).trans (HH6.out k hk)
                have hb6 : Blk w6 (W.heap.size + 2) #[.int .i64 s, .bool o, .int .i64 n, .string ⟨t.toArray⟩, .slice la vs.length lc, .slice ka keys.length kc] 26 := (hg6.block (W.heap.size + 2) (by simp; omega) (fun e => HO2.out.own.apart (by omega) e)).trans (HO2.out.blk.alloc _)
                have hq6 := hb6.cell 4
                have hf6 := hb6.free 4
                clear hown6 hg6 hbk6 hb6
                refine hK.out _ _ ?_ (fun hHeld => ?_)
                · exact HS.out _ HH6.out
                try simp only [Act.put]
                try simp only [List.setIfInBounds_toArray]
                try simp only [List.set_cons_succ, List.set_cons_zero]
                refine wpAnyH_take (i := 10) (oi := ⟨some 33, _, _, _, _, _⟩) (v := ?_) rfl (by kernel_rfl) (by kernel_rfl) (by kernel_rfl) (fun _ _ _ h => h) (Or.inl ⟨by rfl, ?_⟩) (by assumption) ?_; rotate_left; focus (intro w hSw; (try dsimp only at hSw); first | (go_simp; done) | (go_simp; with_reducible rfl))
                try simp only [Act.put]
                try simp only [List.setIfInBounds_toArray]
                try simp only [List.set_cons_succ, List.set_cons_zero]
                refine wpAnyH_ready (rs := [11]) (by kernel_rfl) (by simp) ?_
                refine AllReadyH.cons (i := 11) (o := ⟨none, _, _, _, _, _⟩) rfl (fun K hK => ?_) ?_
                · go_simp
                  refine hK.out _ _ ?_ (fun hHeld => ?_)
                  · exact HS.out _ HH7.out
                  try simp only [Act.put]
                  try simp only [List.setIfInBounds_toArray]
                  try simp only [List.set_cons_succ, List.set_cons_zero]
                  refine wpAnyH_done (by kernel_rfl) ?_ _
                  have HN : Hid (OV 26 34 B W (w6.setCell ⟨W.heap.size + 2, 4, none⟩ (.slice a6 (vs.length + 1) c6)) (VD.mk s o n t (some ⟨eb, eo, none⟩) c ks ka kc keys) (vs ++ [d2]) a6 c6) := Lib.hid (HO1.out.push hBW HB2.out HVA2.out _ (by rw [List.flatMap_append, List.flatMap_singleton, cells_list]; exact HO6.out) HG6.out HK6.out)
                  go_wp2
                  go_roundw
                  case rel => exact ⟨vs ++ [d2], a6, c6, by rw [List.length_append]; exact hlt, by rw [List.length_append]; go_num, HN, Lib.hid (by rw [List.length_append, List.map_append, HE.out]; simp [HT.out, HD2.out])⟩
                  case measure => simp [intOf]; omega
                exact AllReadyH.nil
              exact AllReadyH.nil
            exact AllReadyH.nil
          refine AllReadyH.cons (i := 8) (o := ⟨some 31, _, _, _, _, _⟩) rfl (fun K hK => ?_) ?_
          · go_simp
            refine hK.out _ _ ?_ (fun hHeld => ?_)
            · exact HS.out _ HH3.out
            try simp only [Act.put]
            try simp only [List.setIfInBounds_toArray]
            try simp only [List.set_cons_succ, List.set_cons_zero]
            refine wpAnyH_ready (rs := [1]) (by kernel_rfl) (by simp) ?_
            refine AllReadyH.cons (i := 1) (o := ⟨some 24, _, _, _, _, _⟩) rfl (fun K hK => ?_) ?_
            · go_simp
              refine hK.out _ _ ?_ (fun hHeld => ?_)
              · exact hHeld
              try simp only [Act.put]
              try simp only [List.setIfInBounds_toArray]
              try simp only [List.set_cons_succ, List.set_cons_zero]
              refine wpAnyH_ready (rs := [9]) (by kernel_rfl) (by simp) ?_
              refine AllReadyH.cons (i := 9) (o := ⟨some 32, _, _, _, _, _⟩) rfl (fun K hK => ?_) ?_
              · refine step_append_Own rfl (.tmp 24) (.tmp 31) 23 rfl (W.heap.size + 3) 26 _ 6 88 Tryz.underlying23 Tryz.infoDoc rfl (by decide) la vs.length lc _ (by simp [go_sem]) (by exact Hown2.out.alloc _) _ 1 1 [.int .i64 d2.sort, .bool d2.on, .int .i64 d2.n, .string ⟨d2.text.toArray⟩, .slice d2.a d2.list.length d2.c, .slice d2.ka d2.keys.length d2.kc] (by simp [go_sem]; rfl) (by exact Row.new1 (by simp) rfl rfl) (by intro u hu; simp at hu; rcases hu with rfl | rfl | rfl | rfl | rfl | rfl <;> rfl) (by unfold maxLen; omega) (by omega) (by simp; omega) ?_
                intro a6 c6 w6 hown6 hg6 hbk6
                have HO6 := Lib.hid hown6
                have HG6 := Lib.hid hg6
                have HK6 := Lib.hid hbk6
                have HH6 : Hid (∀ k, k ≤ W.heap.size → w6.heap[k]? = wr.heap[k]?) := Lib.hid fun k hk => (hg6.block k (by simp; omega) (fun e => HO2.out.own.apart (by omega) e)).trans (HH3.out k hk)
                have HH7 : Hid (∀ k, k ≤ W.heap.size → (w6.setCell ⟨W.heap.size + 2, 4, none⟩ (.slice a6 (vs.length + 1) c6)).heap[k]? = wr.heap[k]?) := Lib.hid fun k hk => (Below.heap_setCell _ ⟨W.heap.size + 2, 4, none⟩ _ k (by show k ≠ W.heap.size + 2; omega)).trans (HH6.out k hk)
                have hb6 : Blk w6 (W.heap.size + 2) #[.int .i64 s, .bool o, .int .i64 n, .string ⟨t.toArray⟩, .slice la vs.length lc, .slice ka keys.length kc] 26 := (hg6.block (W.heap.size + 2) (by simp; omega) (fun e => HO2.out.own.apart (by omega) e)).trans (HO2.out.blk.alloc _)
                have hq6 := hb6.cell 4
                have hf6 := hb6.free 4
                clear hown6 hg6 hbk6 hb6
                refine hK.out _ _ ?_ (fun hHeld => ?_)
                · exact HS.out _ HH6.out
                try simp only [Act.put]
                try simp only [List.setIfInBounds_toArray]
                try simp only [List.set_cons_succ, List.set_cons_zero]
                refine wpAnyH_take (i := 10) (oi := ⟨some 33, _, _, _, _, _⟩) (v := ?_) rfl (by kernel_rfl) (by kernel_rfl) (by kernel_rfl) (fun _ _ _ h => h) (Or.inl ⟨by rfl, ?_⟩) (by assumption) ?_; rotate_left; focus (intro w hSw; (try dsimp only at hSw); first | (go_simp; done) | (go_simp; with_reducible rfl))
                try simp only [Act.put]
                try simp only [List.setIfInBounds_toArray]
                try simp only [List.set_cons_succ, List.set_cons_zero]
                refine wpAnyH_ready (rs := [11]) (by kernel_rfl) (by simp) ?_
                refine AllReadyH.cons (i := 11) (o := ⟨none, _, _, _, _, _⟩) rfl (fun K hK => ?_) ?_
                · go_simp
                  refine hK.out _ _ ?_ (fun hHeld => ?_)
                  · exact HS.out _ HH7.out
                  try simp only [Act.put]
                  try simp only [List.setIfInBounds_toArray]
                  try simp only [List.set_cons_succ, List.set_cons_zero]
                  refine wpAnyH_done (by kernel_rfl) ?_ _
                  have HN : Hid (OV 26 34 B W (w6.setCell ⟨W.heap.size + 2, 4, none⟩ (.slice a6 (vs.length + 1) c6)) (VD.mk s o n t (some ⟨eb, eo, none⟩) c ks ka kc keys) (vs ++ [d2]) a6 c6) := Lib.hid (HO1.out.push hBW HB2.out HVA2.out _ (by rw [List.flatMap_append, List.flatMap_singleton, cells_list]; exact HO6.out) HG6.out HK6.out)
                  go_wp2
                  go_roundw
                  case rel => exact ⟨vs ++ [d2], a6, c6, by rw [List.length_append]; exact hlt, by rw [List.length_append]; go_num, HN, Lib.hid (by rw [List.length_append, List.map_append, HE.out]; simp [HT.out, HD2.out])⟩
                  case measure => simp [intOf]; omega
                exact AllReadyH.nil
              exact AllReadyH.nil
            exact AllReadyH.nil
          exact AllReadyH.nil
        exact AllReadyH.nil
      · have hlen : vs.length = ks.length := by omega
        have HF := Lib.hid (HO.out.fin hBW HV.out (by rw [HE.out, hlen, List.take_length]; rfl))
        have y := HO.out.blk.sixT
        obtain ⟨y0, y1, y2, y3, y4, y5⟩ := y
        have f0 := HO.out.res.free 0
        have f1 := HO.out.res.free 1
        have f2 := HO.out.res.free 2
        have f3 := HO.out.res.free 3
        have f4 := HO.out.res.free 4
        have f5 := HO.out.res.free 5
        have a4 : wr.cell? ⟨W.heap.size, 4, none⟩ = some (.slice a ks.length c) := HO.out.arg.cell 4
        have z := HO.out.res.sixT
        obtain ⟨z0, z1, z2, z3, z4, z5⟩ := z
        have hrl := HO.out.res.lt
        clear HE hlen
        go_wp2
        refine to_end (g := W.heap.size + 1) rfl (store6 HO.out.res) ?_
        exact HF.out
theorem ret_same {w W : World} {p : Prop} {e : Ending} (h : Ret w (IsB p) e W) (hp : p) : e = .returned (.bool true) ∧ Below w.heap.size w W := by
  obtain ⟨v, he, hb, b, rfl, hbp⟩ := h
  rw [hbp.2 hp] at he
  exact ⟨he, hb⟩

theorem ret_bool {w W : World} {p : Prop} {b : Bool} {e : Ending} (h : Ret w (IsB p) e W) (hb : b = true ↔ p) : e = .returned (.bool b) ∧ Below w.heap.size w W := by
  obtain ⟨v, he, hbl, c, rfl, hc⟩ := h
  have : c = b := by
    cases c <;> cases b <;> simp_all
  rw [← this]; exact ⟨he, hbl⟩
/-- a copy, wherever it lies -/
def OfT (w : World) (v : V) (e : Ending) (w' : World) : Prop := ∃ d' : VD, e = .returned (.agg #[.int .i64 d'.sort, .bool d'.on, .int .i64 d'.n, .string ⟨d'.text.toArray⟩, .slice d'.a d'.list.length d'.c, .slice d'.ka d'.keys.length d'.kc]) ∧ d'.v = v ∧ ValAt w' (fun _ => True) d' ∧ Below w.heap.size w w'
theorem ofT_any (d : VD) (W : World) (h : ValAt W (fun _ => True) d) (hs : sizeV d.v ≤ 1048576) : Calls Tryz.prog 10 #[.agg #[.int .i64 d.sort, .bool d.on, .int .i64 d.n, .string ⟨d.text.toArray⟩, .slice d.a d.list.length d.c, .slice d.ka d.keys.length d.kc]] W (OfT W d.v) := by
  have h1 := of_any d W.heap.size W (Nat.le_refl _) (h.mono fun g _ hg => hg) hs
  rw [VD.val6] at h1
  refine h1.mono ?_
  rintro e w' ⟨d', rfl, hv, ha, hb⟩
  exact ⟨d', rfl, hv, ha.mono fun _ _ _ => trivial, hb⟩
/-- two arguments in their boxes -/
structure LB (w W : World) (d f : VD) : Prop where
  one : Blk W w.heap.size #[.int .i64 d.sort, .bool d.on, .int .i64 d.n, .string ⟨d.text.toArray⟩, .slice d.a d.list.length d.c, .slice d.ka d.keys.length d.kc] 26
  two : Blk W (w.heap.size + 1) #[.int .i64 f.sort, .bool f.on, .int .i64 f.n, .string ⟨f.text.toArray⟩, .slice f.a f.list.length f.c, .slice f.ka f.keys.length f.kc] 26
  glob : Glob W
  va : ValAt W (fun _ => True) d
  vb : ValAt W (fun _ => True) f
  below : Below w.heap.size w W
theorem LB.ext {w W W' : World} {d f : VD} (h : LB w W d f) (hb : Below W.heap.size W W') : LB w W' d f :=
  ⟨h.one.ext hb, h.two.ext hb, h.glob.ext hb, h.va.ext hb, h.vb.ext hb, h.below.trans (hb.mono h.below.size)⟩
theorem LB.start {w : World} {d f : VD} (hG : Glob w) (hd : ValAt w (fun _ => True) d) (hf : ValAt w (fun _ => True) f) :
    LB w ((w.alloc (.cells #[.int .i64 d.sort, .bool d.on, .int .i64 d.n, .string ⟨d.text.toArray⟩, .slice d.a d.list.length d.c, .slice d.ka d.keys.length d.kc] 26)).alloc (.cells #[.int .i64 f.sort, .bool f.on, .int .i64 f.n, .string ⟨f.text.toArray⟩, .slice f.a f.list.length f.c, .slice f.ka f.keys.length f.kc] 26)) d f := by
  have hb : Below w.heap.size w ((w.alloc (.cells #[.int .i64 d.sort, .bool d.on, .int .i64 d.n, .string ⟨d.text.toArray⟩, .slice d.a d.list.length d.c, .slice d.ka d.keys.length d.kc] 26)).alloc (.cells #[.int .i64 f.sort, .bool f.on, .int .i64 f.n, .string ⟨f.text.toArray⟩, .slice f.a f.list.length f.c, .slice f.ka f.keys.length f.kc] 26)) := (below_a1 w _).alloc (by simp) _
  exact ⟨(Blk.new rfl).alloc _, Blk.new (by simp), hG.ext hb, hd.ext hb, hf.ext hb, hb⟩


theorem toT_any (d : VD) (W : World) (h : ValAt W (fun _ => True) d) (hs : sizeV d.v ≤ 1048576) : Calls Tryz.prog 15 #[.agg #[.int .i64 d.sort, .bool d.on, .int .i64 d.n, .string ⟨d.text.toArray⟩, .slice d.a d.list.length d.c, .slice d.ka d.keys.length d.kc]] W (OfT W d.v) := by
  have h1 := to_any d W.heap.size W (Nat.le_refl _) (h.mono fun g _ hg => hg) hs
  rw [VD.val6] at h1
  refine h1.mono ?_
  rintro e w' ⟨d', rfl, hv, ha, hb⟩
  exact ⟨d', rfl, hv, ha.mono fun _ _ _ => trivial, hb⟩
theorem get_u {w w' : World} {r : Option V} {e : Ending} (h : GetE w r e w') : ∃ (x : VD) (b : Bool), e = .returned (.tuple #[.agg #[.int .i64 x.sort, .bool x.on, .int .i64 x.n, .string ⟨x.text.toArray⟩, .slice x.a x.list.length x.c, .slice x.ka x.keys.length x.kc], .bool b]) ∧ x.v = r.getD V.null ∧ b = r.isSome ∧ ValAt w' (fun _ => True) x ∧ Below w.heap.size w w' := by
  cases r with
  | none => exact ⟨VD.mk 0 false 0 [] none 0 [] none 0 [], false, h.2, rfl, rfl, .leaf, h.1⟩
  | some v =>
    obtain ⟨hb, x, he, hv, ha⟩ := h
    rw [VD.val6] at he
    exact ⟨x, true, he, hv, rfl, ha.ext hb, hb⟩
theorem stepV_size {v x : V} {k : Nm} (h : stepV v k = some x) : sizeV x ≤ sizeV v := by
  unfold stepV at h
  split at h
  · cases hi : indexK k v.keys with
    | none => rw [hi] at h; cases h
    | some i =>
      rw [hi, Option.bind_some] at h
      have hm := sizesV_mem (List.mem_of_getElem? h)
      cases v with
      | mk s o n t l ks => simp only [V.list] at hm; rw [sizeV]; omega
  · cases h
theorem getV_size : ∀ (p : List Nm) (v x : V), getV v p = some x → sizeV x ≤ sizeV v
  | [], v, x, h => by rw [getV] at h; cases h; exact Nat.le_refl _
  | k :: p, v, x, h => by
    rw [getV] at h
    cases hs : stepV v k with
    | none => rw [hs] at h; cases h
    | some y => rw [hs] at h; exact Nat.le_trans (getV_size p y x h) (stepV_size hs)
theorem getD_size (v : V) (p : List Nm) : sizeV ((getV v p).getD V.null) ≤ sizeV v := by
  cases h : getV v p with
  | some x => exact getV_size p v x h
  | none => cases v with | mk s o n t l ks => rw [sizeV]; show sizeV V.null ≤ _; have : sizeV V.null = 1 := by decide
                                              omega

set_option maxHeartbeats 16000000 in
set_option maxRecDepth 4000 in
theorem lawV_any (d f : VD) (pa : Option Addr) (pc : Nat) (p : List Nm) (w : World) (hG : Glob w) (hd : ValAt w (fun _ => True) d) (hf : ValAt w (fun _ => True) f) (hp : Row w 1 pa p.length (p.map strV)) (hpl : p.length ≤ 1048576) (hds : sizeV d.v ≤ 1048576) (hfs : sizeV f.v ≤ 1048576) :
    Calls Tryz.prog 3 #[d.val, f.val, .slice pa p.length pc] w (BoE w true) := by
  have HP := Lib.hid hp
  clear hp
  obtain ⟨W1, hW1⟩ : ∃ W1, W1 = (w.alloc (.cells #[.int .i64 d.sort, .bool d.on, .int .i64 d.n, .string ⟨d.text.toArray⟩, .slice d.a d.list.length d.c, .slice d.ka d.keys.length d.kc] 26)).alloc (.cells #[.int .i64 f.sort, .bool f.on, .int .i64 f.n, .string ⟨f.text.toArray⟩, .slice f.a f.list.length f.c, .slice f.ka f.keys.length f.kc] 26) := ⟨_, rfl⟩
  have HL1 : Hid (LB w W1 d f) := Lib.hid (by rw [hW1]; exact .start hG hd hf)
  have HS1 := Lib.hid hds
  have HS2 := Lib.hid hfs
  rw [VD.val6, VD.val6]
  clear hG hd hf hds hfs
  go_enter Tryz.func3, Tryz.ntmps3
  go_upto_region 1 with (fail)
  rw [← hW1]
  clear hW1
  have h1 := size_any d W1 HL1.out.va HS1.out
  rw [VD.val6] at h1
  have H1 := Lib.hid h1
  clear h1
  obtain ⟨c0, c1, c2, c3, c4, c5⟩ := HL1.out.one.sixT
  obtain ⟨e0, e1, e2, e3, e4, e5⟩ := HL1.out.two.sixT
  go_wp2_with fail
  refine H1.out.mono ?_
  clear H1 c0 c1 c2 c3 c4 c5 e0 e1 e2 e3 e4 e5
  rintro e W2 ⟨m1, rfl, hm1, hm2, hb2⟩
  have HL2 := Lib.hid (HL1.out.ext hb2)
  have HM1 := Lib.hid hm2
  have hm1' : m1 ≤ 1048576 := Nat.le_trans hm1 HS1.out
  clear hb2 hm1 hm2 HL1
  by_cases hbig : m1 ≤ 400
  case neg =>
    have hbi : (400 : Int) < m1 := by omega
    have hal := alive_any W2 HL2.out.glob
    have HAL := Lib.hid hal
    clear hal
    go_wp2_with fail
    refine HAL.out.mono ?_
    rintro e W3 ⟨rfl, hb3⟩
    have HB := Lib.hid (HL2.out.below.trans (hb3.mono HL2.out.below.size))
    clear hb3 HAL
    go_wp2
    go_ret
    exact ⟨rfl, HB.out⟩
  have hbi : ¬ ((400 : Int) < m1) := by omega
  have HSD : Hid (sizeV d.v ≤ 400) := Lib.hid (by rw [← HM1.out hbig]; exact hbig)
  clear hbig hm1'
  have h1 := size_any f W2 HL2.out.vb HS2.out
  rw [VD.val6] at h1
  have H1 := Lib.hid h1
  clear h1
  obtain ⟨c0, c1, c2, c3, c4, c5⟩ := HL2.out.one.sixT
  obtain ⟨e0, e1, e2, e3, e4, e5⟩ := HL2.out.two.sixT
  go_wp2_with fail
  refine H1.out.mono ?_
  clear H1 c0 c1 c2 c3 c4 c5 e0 e1 e2 e3 e4 e5
  rintro e W3 ⟨n1, rfl, hn1, hn2, hb3⟩
  have HL3 := Lib.hid (HL2.out.ext hb3)
  have HN1 := Lib.hid hn2
  have hn1' : n1 ≤ 1048576 := Nat.le_trans hn1 HS2.out
  clear hb3 hn1 hn2 HL2 HM1
  by_cases hbig : n1 ≤ 400
  case neg =>
    have hbi2 : (400 : Int) < n1 := by omega
    have hal := alive_any W3 HL3.out.glob
    have HAL := Lib.hid hal
    clear hal
    go_wp2_with fail
    refine HAL.out.mono ?_
    rintro e W4 ⟨rfl, hb4⟩
    have HB := Lib.hid (HL3.out.below.trans (hb4.mono HL3.out.below.size))
    clear hb4 HAL
    go_wp2
    go_ret
    exact ⟨rfl, HB.out⟩
  have hbi2 : ¬ ((400 : Int) < n1) := by omega
  have HSF : Hid (sizeV f.v ≤ 400) := Lib.hid (by rw [← HN1.out hbig]; exact hbig)
  clear hbig hn1' HN1
  by_cases hmany : p.length ≤ 120
  case neg =>
    have hma : (120 : Int) < (p.length : Int) := by omega
    have hal := alive_any W3 HL3.out.glob
    have HAL := Lib.hid hal
    clear hal
    go_wp2_with fail
    refine HAL.out.mono ?_
    rintro e W4 ⟨rfl, hb4⟩
    have HB := Lib.hid (HL3.out.below.trans (hb4.mono HL3.out.below.size))
    clear hb4 HAL
    go_wp2
    go_ret
    exact ⟨rfl, HB.out⟩
  have hma : ¬ ((120 : Int) < (p.length : Int)) := by omega
  have h1 := ofT_any d W3 HL3.out.va HS1.out
  have H1 := Lib.hid h1
  clear h1
  obtain ⟨c0, c1, c2, c3, c4, c5⟩ := HL3.out.one.sixT
  obtain ⟨e0, e1, e2, e3, e4, e5⟩ := HL3.out.two.sixT
  go_wp2_with fail
  refine H1.out.mono ?_
  clear H1 c0 c1 c2 c3 c4 c5 e0 e1 e2 e3 e4 e5
  rintro e W4 ⟨g1, rfl, hg1, hga, hb4⟩
  have HL4 := Lib.hid (HL3.out.ext hb4)
  have h1 := vwrite_any g1 W4 HL4.out.glob hga (by rw [hg1]; exact HS1.out)
  rw [VD.val6, hg1] at h1
  clear hb4 hg1 hga HL3
  obtain ⟨sd, kd, hsd, hkd⟩ : ∃ (sd : Nm) (kd : Int), wrote d.v = .tuple #[.string ⟨sd.toArray⟩, .int .i64 kd] ∧ (if right 20 d.v = true then sd = textV d.v ∧ kd = 0 else kd = 21) := wrote_two _
  clear hkd
  rw [hsd] at h1
  have H1 := Lib.hid h1
  have HSD2 := Lib.hid hsd
  clear h1 hsd
  go_wp2_with fail
  refine H1.out.mono ?_
  clear H1
  rintro e W5 ⟨rfl, hb5⟩
  have HL5 := Lib.hid (HL4.out.ext hb5)
  clear hb5 HL4
  have h1 := writeR_any d W5 HL5.out.va HS1.out
  rw [VD.val6, HSD2.out] at h1
  have H1 := Lib.hid h1
  clear h1
  obtain ⟨c0, c1, c2, c3, c4, c5⟩ := HL5.out.one.sixT
  go_wp2_with fail
  refine H1.out.mono ?_
  clear H1 c0 c1 c2 c3 c4 c5
  rintro e W6 ⟨rfl, hb6⟩
  have HL6 := Lib.hid (HL5.out.ext hb6)
  clear hb6 HL5
  have h1 := ofT_any d W6 HL6.out.va HS1.out
  have H1 := Lib.hid h1
  clear h1
  obtain ⟨c0, c1, c2, c3, c4, c5⟩ := HL6.out.one.sixT
  go_wp2_with fail
  refine H1.out.mono ?_
  clear H1 c0 c1 c2 c3 c4 c5
  rintro e W7 ⟨g2, rfl, hg2, hga, hb7⟩
  have HL7 := Lib.hid (HL6.out.ext hb7)
  have h1 := get_any g2 pa pc p W7 hga (HP.out.ext HL7.out.below) (by omega) (by rw [hg2]; exact HS1.out)
  rw [VD.val6, hg2] at h1
  have H1 := Lib.hid h1
  clear h1 hb7 hg2 hga HL6
  go_wp2_with fail
  refine H1.out.mono ?_
  clear H1
  intro e W8 h8
  obtain ⟨x, bs, rfl, hxv, hbs, hxa, hb8⟩ := get_u h8
  obtain ⟨W9, hW9⟩ : ∃ W9, W9 = W8.alloc (.cells #[.int .i64 x.sort, .bool x.on, .int .i64 x.n, .string ⟨x.text.toArray⟩, .slice x.a x.list.length x.c, .slice x.ka x.keys.length x.kc] 34) := ⟨_, rfl⟩
  obtain ⟨bx, hbx⟩ : ∃ bx, bx = W8.heap.size := ⟨_, rfl⟩
  have hb79 : Below W7.heap.size W7 W9 := by rw [hW9]; exact hb8.alloc hb8.size _
  have HL9 := Lib.hid (HL7.out.ext hb79)
  have HBX : Hid (Blk W9 bx #[.int .i64 x.sort, .bool x.on, .int .i64 x.n, .string ⟨x.text.toArray⟩, .slice x.a x.list.length x.c, .slice x.ka x.keys.length x.kc] 34) := Lib.hid (by rw [hW9, hbx]; exact Blk.new rfl)
  have HX : Hid (ValAt W9 (fun _ => True) x) := Lib.hid (by rw [hW9]; exact hxa.ext (below_a1 _ _))
  have HXV := Lib.hid hxv
  have HBS := Lib.hid hbs
  clear hxv hbs hxa hb8 h8 HL7 hb79
  go_upto_region 6 with (fail)
  rw [← hW9, ← hbx]
  clear hW9 hbx
  have h1 := getR_any d pa pc p W9 HL9.out.va (HP.out.ext HL9.out.below) (by omega) HS1.out
  rw [VD.val6] at h1
  have H1 := Lib.hid h1
  clear h1
  obtain ⟨c0, c1, c2, c3, c4, c5⟩ := HL9.out.one.sixT
  go_wp2_with fail
  refine H1.out.mono ?_
  clear H1 c0 c1 c2 c3 c4 c5
  intro e W10 h8
  obtain ⟨y, bt, rfl, hyv, hbt, hya, hb8⟩ := get_u h8
  obtain rfl : bt = bs := by rw [hbt, HBS.out]
  obtain ⟨W0, hW0⟩ : ∃ W0, W0 = W10.alloc (.cells #[.int .i64 y.sort, .bool y.on, .int .i64 y.n, .string ⟨y.text.toArray⟩, .slice y.a y.list.length y.c, .slice y.ka y.keys.length y.kc] 26) := ⟨_, rfl⟩
  obtain ⟨by_, hby⟩ : ∃ by_, by_ = W10.heap.size := ⟨_, rfl⟩
  have hb90 : Below W9.heap.size W9 W0 := by rw [hW0]; exact hb8.alloc hb8.size _
  have HLB := Lib.hid (HL9.out.ext hb90)
  have HBY : Hid (Blk W0 by_ #[.int .i64 y.sort, .bool y.on, .int .i64 y.n, .string ⟨y.text.toArray⟩, .slice y.a y.list.length y.c, .slice y.ka y.keys.length y.kc] 26) := Lib.hid (by rw [hW0, hby]; exact Blk.new rfl)
  have HBX0 := Lib.hid (HBX.out.ext hb90)
  have HX0 := Lib.hid (HX.out.ext hb90)
  have HYA : Hid (ValAt W0 (fun _ => True) y) := Lib.hid (by rw [hW0]; exact hya.ext (below_a1 _ _))
  have HXY : Hid (x.v = y.v) := Lib.hid (by rw [HXV.out, hyv])
  have HXS : Hid (sizeV x.v ≤ 1048576) := Lib.hid (by rw [HXV.out]; exact Nat.le_trans (getD_size d.v p) HS1.out)
  clear hyv hbt hya hb8 h8 HL9 hb90 HX HBX HXV HBS
  go_upto_region 7 with (fail)
  rw [← hW0, ← hby]
  clear hW0 hby
  have HX := HX0
  have CT : Hid (∀ W, Below W0.heap.size W0 W → Calls Tryz.prog 15 #[.agg #[.int .i64 x.sort, .bool x.on, .int .i64 x.n, .string ⟨x.text.toArray⟩, .slice x.a x.list.length x.c, .slice x.ka x.keys.length x.kc]] W (OfT W x.v)) := Lib.hid fun W hW => toT_any x W (HX0.out.ext hW) HXS.out
  have HK : Hid (∀ w', Below W0.heap.size W0 w' → (w'.cell? ⟨bx, 0, none⟩ = some (.int .i64 x.sort) ∧ w'.cell? ⟨bx, 1, none⟩ = some (.bool x.on) ∧ w'.cell? ⟨bx, 2, none⟩ = some (.int .i64 x.n) ∧ w'.cell? ⟨bx, 3, none⟩ = some (.string ⟨x.text.toArray⟩) ∧ w'.cell? ⟨bx, 4, none⟩ = some (.slice x.a x.list.length x.c) ∧ w'.cell? ⟨bx, 5, none⟩ = some (.slice x.ka x.keys.length x.kc)) ∧ (w'.cell? ⟨by_, 0, none⟩ = some (.int .i64 y.sort) ∧ w'.cell? ⟨by_, 1, none⟩ = some (.bool y.on) ∧ w'.cell? ⟨by_, 2, none⟩ = some (.int .i64 y.n) ∧ w'.cell? ⟨by_, 3, none⟩ = some (.string ⟨y.text.toArray⟩) ∧ w'.cell? ⟨by_, 4, none⟩ = some (.slice y.a y.list.length y.c) ∧ w'.cell? ⟨by_, 5, none⟩ = some (.slice y.ka y.keys.length y.kc))) := Lib.hid fun w' hb => ⟨(HBX0.out.ext hb).sixT, (HBY.out.ext hb).sixT⟩
  refine wp_region_held_drew (S := fun w' => (w'.cell? ⟨bx, 0, none⟩ = some (.int .i64 x.sort) ∧ w'.cell? ⟨bx, 1, none⟩ = some (.bool x.on) ∧ w'.cell? ⟨bx, 2, none⟩ = some (.int .i64 x.n) ∧ w'.cell? ⟨bx, 3, none⟩ = some (.string ⟨x.text.toArray⟩) ∧ w'.cell? ⟨bx, 4, none⟩ = some (.slice x.a x.list.length x.c) ∧ w'.cell? ⟨bx, 5, none⟩ = some (.slice x.ka x.keys.length x.kc)) ∧ (w'.cell? ⟨by_, 0, none⟩ = some (.int .i64 y.sort) ∧ w'.cell? ⟨by_, 1, none⟩ = some (.bool y.on) ∧ w'.cell? ⟨by_, 2, none⟩ = some (.int .i64 y.n) ∧ w'.cell? ⟨by_, 3, none⟩ = some (.string ⟨y.text.toArray⟩) ∧ w'.cell? ⟨by_, 4, none⟩ = some (.slice y.a y.list.length y.c) ∧ w'.cell? ⟨by_, 5, none⟩ = some (.slice y.ka y.keys.length y.kc))) (by kernel_rfl) ?_ (fun hHeld => ?_)
  · first | exact HK.out _ HB.out | exact HK.out _ (Below.refl _ _).drew
  refine wpAnyH_take (i := 0) (oi := ⟨some 54, _, _, _, _, _⟩) (v := ?_) rfl (by kernel_rfl) (by kernel_rfl) (by kernel_rfl) (fun _ _ _ h => h) (Or.inl ⟨by rfl, ?_⟩) (by assumption) ?_; rotate_left; focus (intro w hSw; (try dsimp only at hSw); obtain ⟨⟨a0, a1, a2, a3, a4, a5⟩, b0, b1, b2, b3, b4, b5⟩ := hSw; first | (go_simp; done) | (go_simp; with_reducible rfl))
  try simp only [Act.put]
  try simp only [List.setIfInBounds_toArray]
  try simp only [List.set_cons_succ, List.set_cons_zero]
  refine wpAnyH_take (i := 2) (oi := ⟨some 56, _, _, _, _, _⟩) (v := ?_) rfl (by kernel_rfl) (by kernel_rfl) (by kernel_rfl) (fun _ _ _ h => h) (Or.inl ⟨by rfl, ?_⟩) (by assumption) ?_; rotate_left; focus (intro w hSw; (try dsimp only at hSw); obtain ⟨⟨a0, a1, a2, a3, a4, a5⟩, b0, b1, b2, b3, b4, b5⟩ := hSw; first | (go_simp; done) | (go_simp; with_reducible rfl))
  try simp only [Act.put]
  try simp only [List.setIfInBounds_toArray]
  try simp only [List.set_cons_succ, List.set_cons_zero]
  refine wpAnyH_ready (rs := [1]) (by kernel_rfl) (by simp) ?_
  refine AllReadyH.cons (i := 1) (o := ⟨some 55, _, _, _, _, _⟩) rfl (fun K hK => ?_) ?_
  · go_simp
    refine (CT.out _ (Below.refl _ _).drew).mono ?_
    rintro e1 w1 ⟨d1, rfl, hd1, hva1, hb1⟩
    have HB : Hid (Below W0.heap.size W0 w1) := Lib.hid ((Below.refl _ _).drew.trans hb1)
    have HD1 := Lib.hid hd1
    have HVA1 := Lib.hid hva1
    clear hb1 hd1 hva1
    refine hK.out _ _ ?_ (fun hHeld => ?_)
    · exact HK.out _ HB.out
    try simp only [Act.put]
    try simp only [List.setIfInBounds_toArray]
    try simp only [List.set_cons_succ, List.set_cons_zero]
    refine wpAnyH_ready (rs := [3]) (by kernel_rfl) (by simp) ?_
    refine AllReadyH.cons (i := 3) (o := ⟨some 57, _, _, _, _, _⟩) rfl (fun K hK => ?_) ?_
    · go_simp
      have hsm := sameR_any d1 y w1 HVA1.out (HYA.out.ext HB.out) (by rw [HD1.out]; exact HXS.out)
      rw [VD.val6, VD.val6] at hsm
      refine hsm.mono ?_
      clear hsm
      intro e2 w2 h2
      obtain ⟨rfl, hb2⟩ := ret_same h2 (by rw [HD1.out, HXY.out])
      have HB2p := HB
      clear HB
      have HB : Hid (Below W0.heap.size W0 w2) := Lib.hid (HB2p.out.trans (hb2.mono HB2p.out.size))
      clear h2 hb2
      refine hK.out _ _ ?_ (fun hHeld => ?_)
      · exact HK.out _ HB.out
      try simp only [Act.put]
      try simp only [List.setIfInBounds_toArray]
      try simp only [List.set_cons_succ, List.set_cons_zero]
      refine wpAnyH_take (i := 4) (oi := ⟨some 15, _, _, _, _, _⟩) (v := ?_) rfl (by kernel_rfl) (by kernel_rfl) (by kernel_rfl) (fun _ _ _ h => h) (Or.inl ⟨by rfl, ?_⟩) (by assumption) ?_; rotate_left; focus (intro w hSw; (try dsimp only at hSw); first | (go_simp; done) | (go_simp; with_reducible rfl))
      try simp only [Act.put]
      try simp only [List.setIfInBounds_toArray]
      try simp only [List.set_cons_succ, List.set_cons_zero]
      refine wpAnyH_done (by kernel_rfl) ?_ _
      clear hHeld
      have HLB8 := Lib.hid (HLB.out.ext HB.out)
      clear HLB HK CT HX HYA
      clear HB
      obtain ⟨W0, hW0⟩ : ∃ W0, W0 = w2 := ⟨_, rfl⟩
      go_wp2_with fail
      rw [← hW0] at HLB8 ⊢
      clear hW0
      have CA : Hid (∀ W, Below W0.heap.size W0 W → Calls Tryz.prog 8 #[] W (BoE W true)) := Lib.hid fun W hW => alive_any W (HLB8.out.glob.ext hW)
      have CO : Hid (∀ W, Below W0.heap.size W0 W → Calls Tryz.prog 10 #[.agg #[.int .i64 d.sort, .bool d.on, .int .i64 d.n, .string ⟨d.text.toArray⟩, .slice d.a d.list.length d.c, .slice d.ka d.keys.length d.kc]] W (OfT W d.v)) := Lib.hid fun W hW => ofT_any d W (HLB8.out.va.ext hW) HS1.out
      have CP : Hid (∀ W, Below W0.heap.size W0 W → Calls Tryz.prog 10 #[.agg #[.int .i64 f.sort, .bool f.on, .int .i64 f.n, .string ⟨f.text.toArray⟩, .slice f.a f.list.length f.c, .slice f.ka f.keys.length f.kc]] W (OfT W f.v)) := Lib.hid fun W hW => ofT_any f W (HLB8.out.vb.ext hW) HS2.out
      have HK : Hid (∀ w', Below W0.heap.size W0 w' → (w'.cell? ⟨w.heap.size, 0, none⟩ = some (.int .i64 d.sort) ∧ w'.cell? ⟨w.heap.size, 1, none⟩ = some (.bool d.on) ∧ w'.cell? ⟨w.heap.size, 2, none⟩ = some (.int .i64 d.n) ∧ w'.cell? ⟨w.heap.size, 3, none⟩ = some (.string ⟨d.text.toArray⟩) ∧ w'.cell? ⟨w.heap.size, 4, none⟩ = some (.slice d.a d.list.length d.c) ∧ w'.cell? ⟨w.heap.size, 5, none⟩ = some (.slice d.ka d.keys.length d.kc)) ∧ (w'.cell? ⟨(w.heap.size + 1), 0, none⟩ = some (.int .i64 f.sort) ∧ w'.cell? ⟨(w.heap.size + 1), 1, none⟩ = some (.bool f.on) ∧ w'.cell? ⟨(w.heap.size + 1), 2, none⟩ = some (.int .i64 f.n) ∧ w'.cell? ⟨(w.heap.size + 1), 3, none⟩ = some (.string ⟨f.text.toArray⟩) ∧ w'.cell? ⟨(w.heap.size + 1), 4, none⟩ = some (.slice f.a f.list.length f.c) ∧ w'.cell? ⟨(w.heap.size + 1), 5, none⟩ = some (.slice f.ka f.keys.length f.kc))) := Lib.hid fun w' hb => ⟨(HLB8.out.one.ext hb).sixT, (HLB8.out.two.ext hb).sixT⟩
      obtain ⟨rd, hrd⟩ : ∃ rd, rd = right 20 d.v := ⟨_, rfl⟩
      have HRD := Lib.hid hrd
      clear hrd
      obtain ⟨tb, htb⟩ : ∃ tb : Bool, tb = true ↔ d.v = f.v := by
        by_cases h : d.v = f.v
        · exact ⟨true, by simp [h]⟩
        · exact ⟨false, by simp [h]⟩
      have HTB := Lib.hid htb
      clear htb
      refine wp_region_held_drew (S := fun w' => (w'.cell? ⟨w.heap.size, 0, none⟩ = some (.int .i64 d.sort) ∧ w'.cell? ⟨w.heap.size, 1, none⟩ = some (.bool d.on) ∧ w'.cell? ⟨w.heap.size, 2, none⟩ = some (.int .i64 d.n) ∧ w'.cell? ⟨w.heap.size, 3, none⟩ = some (.string ⟨d.text.toArray⟩) ∧ w'.cell? ⟨w.heap.size, 4, none⟩ = some (.slice d.a d.list.length d.c) ∧ w'.cell? ⟨w.heap.size, 5, none⟩ = some (.slice d.ka d.keys.length d.kc)) ∧ (w'.cell? ⟨(w.heap.size + 1), 0, none⟩ = some (.int .i64 f.sort) ∧ w'.cell? ⟨(w.heap.size + 1), 1, none⟩ = some (.bool f.on) ∧ w'.cell? ⟨(w.heap.size + 1), 2, none⟩ = some (.int .i64 f.n) ∧ w'.cell? ⟨(w.heap.size + 1), 3, none⟩ = some (.string ⟨f.text.toArray⟩) ∧ w'.cell? ⟨(w.heap.size + 1), 4, none⟩ = some (.slice f.a f.list.length f.c) ∧ w'.cell? ⟨(w.heap.size + 1), 5, none⟩ = some (.slice f.ka f.keys.length f.kc))) (by kernel_rfl) ?_ (fun hHeld => ?_)
      · first | exact HK.out _ HB.out | exact HK.out _ (Below.refl _ _).drew
      refine wpAnyH_ready (rs := [0]) (by kernel_rfl) (by simp) ?_
      refine AllReadyH.cons (i := 0) (o := ⟨some 58, _, _, _, _, _⟩) rfl (fun K hK => ?_) ?_
      · go_simp
        refine (CA.out _ (Below.refl _ _).drew).mono ?_
        rintro e1 w3 ⟨rfl, hb1⟩
        have HB : Hid (Below W0.heap.size W0 w3) := Lib.hid ((Below.refl _ _).drew.trans hb1)
        clear hb1
        refine hK.out _ _ ?_ (fun hHeld => ?_)
        · first | exact HK.out _ HB.out | exact HK.out _ (Below.refl _ _).drew
        try simp only [Act.put]
        try simp only [List.setIfInBounds_toArray]
        try simp only [List.set_cons_succ, List.set_cons_zero]
        refine wpAnyH_take (i := 1) (oi := ⟨some 59, _, _, _, _, _⟩) (v := ?_) rfl (by kernel_rfl) (by kernel_rfl) (by kernel_rfl) (fun _ _ _ h => h) (Or.inl ⟨by rfl, ?_⟩) (by assumption) ?_; rotate_left; focus (intro w hSw; (try dsimp only at hSw); first | (go_simp; done) | (go_simp; with_reducible rfl))
        try simp only [Act.put]
        try simp only [List.setIfInBounds_toArray]
        try simp only [List.set_cons_succ, List.set_cons_zero]
        refine wpAnyH_take (i := 2) (oi := ⟨some 60, _, _, _, _, _⟩) (v := ?_) rfl (by kernel_rfl) (by kernel_rfl) (by kernel_rfl) (fun _ _ _ h => h) (Or.inl ⟨by rfl, ?_⟩) (by assumption) ?_; rotate_left; focus (intro w hSw; (try dsimp only at hSw); obtain ⟨⟨a0, a1, a2, a3, a4, a5⟩, b0, b1, b2, b3, b4, b5⟩ := hSw; first | (go_simp; done) | (go_simp; with_reducible rfl))
        try simp only [Act.put]
        try simp only [List.setIfInBounds_toArray]
        try simp only [List.set_cons_succ, List.set_cons_zero]
        refine wpAnyH_take (i := 5) (oi := ⟨some 63, _, _, _, _, _⟩) (v := ?_) rfl (by kernel_rfl) (by kernel_rfl) (by kernel_rfl) (fun _ _ _ h => h) (Or.inl ⟨by rfl, ?_⟩) (by assumption) ?_; rotate_left; focus (intro w hSw; (try dsimp only at hSw); obtain ⟨⟨a0, a1, a2, a3, a4, a5⟩, b0, b1, b2, b3, b4, b5⟩ := hSw; first | (go_simp; done) | (go_simp; with_reducible rfl))
        try simp only [Act.put]
        try simp only [List.setIfInBounds_toArray]
        try simp only [List.set_cons_succ, List.set_cons_zero]
        refine wpAnyH_ready (rs := [3]) (by kernel_rfl) (by simp) ?_
        refine AllReadyH.cons (i := 3) (o := ⟨some 61, _, _, _, _, _⟩) rfl (fun K hK => ?_) ?_
        · go_simp
          refine (CO.out _ HB.out).mono ?_
          rintro e2 w4 ⟨d2, rfl, hd2, hva2, hb2⟩
          have HB2p := HB
          clear HB
          have HB : Hid (Below W0.heap.size W0 w4) := Lib.hid (HB2p.out.trans (hb2.mono HB2p.out.size))
          have HD2 := Lib.hid hd2
          have HVA2 := Lib.hid hva2
          clear hb2 hd2 hva2
          refine hK.out _ _ ?_ (fun hHeld => ?_)
          · exact HK.out _ HB.out
          try simp only [Act.put]
          try simp only [List.setIfInBounds_toArray]
          try simp only [List.set_cons_succ, List.set_cons_zero]
          refine wpAnyH_ready (rs := [4]) (by kernel_rfl) (by simp) ?_
          refine AllReadyH.cons (i := 4) (o := ⟨some 62, _, _, _, _, _⟩) rfl (fun K hK => ?_) ?_
          · go_simp
            have hrg := vright_any d2 w4 (HLB8.out.glob.ext HB.out) HVA2.out (by rw [HD2.out]; exact HS1.out)
            rw [VD.val6, HD2.out, ← HRD.out] at hrg
            refine hrg.mono ?_
            clear hrg
            rintro e3 w5 ⟨rfl, hb3⟩
            have HB3p := HB
            clear HB
            have HB : Hid (Below W0.heap.size W0 w5) := Lib.hid (HB3p.out.trans (hb3.mono HB3p.out.size))
            clear hb3
            refine hK.out _ _ ?_ (fun hHeld => ?_)
            · exact HK.out _ HB.out
            try simp only [Act.put]
            try simp only [List.setIfInBounds_toArray]
            try simp only [List.set_cons_succ, List.set_cons_zero]
            refine wpAnyH_ready (rs := [6]) (by kernel_rfl) (by simp) ?_
            refine AllReadyH.cons (i := 6) (o := ⟨some 64, _, _, _, _, _⟩) rfl (fun K hK => ?_) ?_
            · go_simp
              have hrg := rightR_any d w5 (HLB8.out.va.ext HB.out) HS1.out
              rw [VD.val6, ← HRD.out] at hrg
              refine hrg.mono ?_
              clear hrg
              rintro e4 w6 ⟨rfl, hb4⟩
              have HB4p := HB
              clear HB
              have HB : Hid (Below W0.heap.size W0 w6) := Lib.hid (HB4p.out.trans (hb4.mono HB4p.out.size))
              clear hb4
              refine hK.out _ _ ?_ (fun hHeld => ?_)
              · exact HK.out _ HB.out
              try simp only [Act.put]
              try simp only [List.setIfInBounds_toArray]
              try simp only [List.set_cons_succ, List.set_cons_zero]
              refine wpAnyH_take (i := 7) (oi := ⟨some 65, _, _, _, _, _⟩) (v := ?_) rfl (by kernel_rfl) (by kernel_rfl) (by kernel_rfl) (fun _ _ _ h => h) (Or.inl ⟨by rfl, ?_⟩) (by assumption) ?_; rotate_left; focus (intro w hSw; (try dsimp only at hSw); first | (go_simp; done) | (go_simp; with_reducible rfl))
              try simp only [Act.put]
              try simp only [List.setIfInBounds_toArray]
              try simp only [List.set_cons_succ, List.set_cons_zero]
              refine wpAnyH_take (i := 8) (oi := ⟨some 66, _, _, _, _, _⟩) (v := ?_) rfl (by kernel_rfl) (by kernel_rfl) (by kernel_rfl) (fun _ _ _ h => h) (Or.inl ⟨by rfl, ?_⟩) (by assumption) ?_; rotate_left; focus (intro w hSw; (try dsimp only at hSw); first | (go_simp; done) | (go_simp; with_reducible rfl))
              try simp only [Act.put]
              try simp only [List.setIfInBounds_toArray]
              try simp only [List.set_cons_succ, List.set_cons_zero]
              refine wpAnyH_take (i := 9) (oi := ⟨some 67, _, _, _, _, _⟩) (v := ?_) rfl (by kernel_rfl) (by kernel_rfl) (by kernel_rfl) (fun _ _ _ h => h) (Or.inl ⟨by rfl, ?_⟩) (by assumption) ?_; rotate_left; focus (intro w hSw; (try dsimp only at hSw); first | (go_simp; done) | (go_simp; with_reducible rfl))
              try simp only [Act.put]
              try simp only [List.setIfInBounds_toArray]
              try simp only [List.set_cons_succ, List.set_cons_zero]
              refine wpAnyH_take (i := 10) (oi := ⟨some 68, _, _, _, _, _⟩) (v := ?_) rfl (by kernel_rfl) (by kernel_rfl) (by kernel_rfl) (fun _ _ _ h => h) (Or.inl ⟨by rfl, ?_⟩) (by assumption) ?_; rotate_left; focus (intro w hSw; (try dsimp only at hSw); first | (go_simp; done) | (go_simp; with_reducible rfl))
              try simp only [Act.put]
              try simp only [List.setIfInBounds_toArray]
              try simp only [List.set_cons_succ, List.set_cons_zero]
              refine wpAnyH_take (i := 11) (oi := ⟨some 69, _, _, _, _, _⟩) (v := ?_) rfl (by kernel_rfl) (by kernel_rfl) (by kernel_rfl) (fun _ _ _ h => h) (Or.inl ⟨by rfl, ?_⟩) (by assumption) ?_; rotate_left; focus (intro w hSw; (try dsimp only at hSw); first | (go_simp; done) | (go_simp; with_reducible rfl))
              try simp only [Act.put]
              try simp only [List.setIfInBounds_toArray]
              try simp only [List.set_cons_succ, List.set_cons_zero]
              refine wpAnyH_take (i := 12) (oi := ⟨some 70, _, _, _, _, _⟩) (v := ?_) rfl (by kernel_rfl) (by kernel_rfl) (by kernel_rfl) (fun _ _ _ h => h) (Or.inl ⟨by rfl, ?_⟩) (by assumption) ?_; rotate_left; focus (intro w hSw; (try dsimp only at hSw); first | (go_simp; done) | (go_simp; with_reducible rfl))
              try simp only [Act.put]
              try simp only [List.setIfInBounds_toArray]
              try simp only [List.set_cons_succ, List.set_cons_zero]
              refine wpAnyH_take (i := 13) (oi := ⟨some 71, _, _, _, _, _⟩) (v := ?_) rfl (by kernel_rfl) (by kernel_rfl) (by kernel_rfl) (fun _ _ _ h => h) (Or.inl ⟨by rfl, ?_⟩) (by assumption) ?_; rotate_left; focus (intro w hSw; (try dsimp only at hSw); first | (go_simp; done) | (go_simp; with_reducible rfl))
              try simp only [Act.put]
              try simp only [List.setIfInBounds_toArray]
              try simp only [List.set_cons_succ, List.set_cons_zero]
              refine wpAnyH_take (i := 14) (oi := ⟨some 72, _, _, _, _, _⟩) (v := ?_) rfl (by kernel_rfl) (by kernel_rfl) (by kernel_rfl) (fun _ _ _ h => h) (Or.inl ⟨by rfl, ?_⟩) (by assumption) ?_; rotate_left; focus (intro w hSw; (try dsimp only at hSw); first | (go_simp; done) | (go_simp; with_reducible rfl))
              try simp only [Act.put]
              try simp only [List.setIfInBounds_toArray]
              try simp only [List.set_cons_succ, List.set_cons_zero]
              refine wpAnyH_take (i := 15) (oi := ⟨some 73, _, _, _, _, _⟩) (v := ?_) rfl (by kernel_rfl) (by kernel_rfl) (by kernel_rfl) (fun _ _ _ h => h) (Or.inl ⟨by rfl, ?_⟩) (by assumption) ?_; rotate_left; focus (intro w hSw; (try dsimp only at hSw); first | (go_simp; done) | (go_simp; with_reducible rfl))
              try simp only [Act.put]
              try simp only [List.setIfInBounds_toArray]
              try simp only [List.set_cons_succ, List.set_cons_zero]
              refine wpAnyH_take (i := 16) (oi := ⟨some 74, _, _, _, _, _⟩) (v := ?_) rfl (by kernel_rfl) (by kernel_rfl) (by kernel_rfl) (fun _ _ _ h => h) (Or.inl ⟨by rfl, ?_⟩) (by assumption) ?_; rotate_left; focus (intro w hSw; (try dsimp only at hSw); first | (go_simp; done) | (go_simp; with_reducible rfl))
              try simp only [Act.put]
              try simp only [List.setIfInBounds_toArray]
              try simp only [List.set_cons_succ, List.set_cons_zero]
              refine wpAnyH_take (i := 17) (oi := ⟨some 75, _, _, _, _, _⟩) (v := ?_) rfl (by kernel_rfl) (by kernel_rfl) (by kernel_rfl) (fun _ _ _ h => h) (Or.inl ⟨by rfl, ?_⟩) (by assumption) ?_; rotate_left; focus (intro w hSw; (try dsimp only at hSw); first | (go_simp; done) | (go_simp; with_reducible rfl))
              try simp only [Act.put]
              try simp only [List.setIfInBounds_toArray]
              try simp only [List.set_cons_succ, List.set_cons_zero]
              refine wpAnyH_take (i := 18) (oi := ⟨some 76, _, _, _, _, _⟩) (v := ?_) rfl (by kernel_rfl) (by kernel_rfl) (by kernel_rfl) (fun _ _ _ h => h) (Or.inl ⟨by rfl, ?_⟩) (by assumption) ?_; rotate_left; focus (intro w hSw; (try dsimp only at hSw); first | (go_simp; done) | (go_simp; with_reducible rfl))
              try simp only [Act.put]
              try simp only [List.setIfInBounds_toArray]
              try simp only [List.set_cons_succ, List.set_cons_zero]
              refine wpAnyH_take (i := 19) (oi := ⟨some 77, _, _, _, _, _⟩) (v := ?_) rfl (by kernel_rfl) (by kernel_rfl) (by kernel_rfl) (fun _ _ _ h => h) (Or.inl ⟨by rfl, ?_⟩) (by assumption) ?_; rotate_left; focus (intro w hSw; (try dsimp only at hSw); first | (go_simp; done) | (go_simp; with_reducible rfl))
              try simp only [Act.put]
              try simp only [List.setIfInBounds_toArray]
              try simp only [List.set_cons_succ, List.set_cons_zero]
              refine wpAnyH_take (i := 20) (oi := ⟨some 78, _, _, _, _, _⟩) (v := ?_) rfl (by kernel_rfl) (by kernel_rfl) (by kernel_rfl) (fun _ _ _ h => h) (Or.inl ⟨by rfl, ?_⟩) (by assumption) ?_; rotate_left; focus (intro w hSw; (try dsimp only at hSw); obtain ⟨⟨a0, a1, a2, a3, a4, a5⟩, b0, b1, b2, b3, b4, b5⟩ := hSw; first | (go_simp; done) | (go_simp; with_reducible rfl))
              try simp only [Act.put]
              try simp only [List.setIfInBounds_toArray]
              try simp only [List.set_cons_succ, List.set_cons_zero]
              refine wpAnyH_take (i := 22) (oi := ⟨some 80, _, _, _, _, _⟩) (v := ?_) rfl (by kernel_rfl) (by kernel_rfl) (by kernel_rfl) (fun _ _ _ h => h) (Or.inl ⟨by rfl, ?_⟩) (by assumption) ?_; rotate_left; focus (intro w hSw; (try dsimp only at hSw); obtain ⟨⟨a0, a1, a2, a3, a4, a5⟩, b0, b1, b2, b3, b4, b5⟩ := hSw; first | (go_simp; done) | (go_simp; with_reducible rfl))
              try simp only [Act.put]
              try simp only [List.setIfInBounds_toArray]
              try simp only [List.set_cons_succ, List.set_cons_zero]
              refine wpAnyH_take (i := 25) (oi := ⟨some 83, _, _, _, _, _⟩) (v := ?_) rfl (by kernel_rfl) (by kernel_rfl) (by kernel_rfl) (fun _ _ _ h => h) (Or.inl ⟨by rfl, ?_⟩) (by assumption) ?_; rotate_left; focus (intro w hSw; (try dsimp only at hSw); obtain ⟨⟨a0, a1, a2, a3, a4, a5⟩, b0, b1, b2, b3, b4, b5⟩ := hSw; first | (go_simp; done) | (go_simp; with_reducible rfl))
              try simp only [Act.put]
              try simp only [List.setIfInBounds_toArray]
              try simp only [List.set_cons_succ, List.set_cons_zero]
              refine wpAnyH_take (i := 26) (oi := ⟨some 84, _, _, _, _, _⟩) (v := ?_) rfl (by kernel_rfl) (by kernel_rfl) (by kernel_rfl) (fun _ _ _ h => h) (Or.inl ⟨by rfl, ?_⟩) (by assumption) ?_; rotate_left; focus (intro w hSw; (try dsimp only at hSw); obtain ⟨⟨a0, a1, a2, a3, a4, a5⟩, b0, b1, b2, b3, b4, b5⟩ := hSw; first | (go_simp; done) | (go_simp; with_reducible rfl))
              try simp only [Act.put]
              try simp only [List.setIfInBounds_toArray]
              try simp only [List.set_cons_succ, List.set_cons_zero]
              refine wpAnyH_ready (rs := [21]) (by kernel_rfl) (by simp) ?_
              refine AllReadyH.cons (i := 21) (o := ⟨some 79, _, _, _, _, _⟩) rfl (fun K hK => ?_) ?_
              · go_simp
                refine (CO.out _ HB.out).mono ?_
                rintro e5 w7 ⟨d4, rfl, hd4, hva4, hb5⟩
                have HB5p := HB
                clear HB
                have HB : Hid (Below W0.heap.size W0 w7) := Lib.hid (HB5p.out.trans (hb5.mono HB5p.out.size))
                have HD4 := Lib.hid hd4
                have HVA4 := Lib.hid hva4
                clear hb5 hd4 hva4
                refine hK.out _ _ ?_ (fun hHeld => ?_)
                · exact HK.out _ HB.out
                try simp only [Act.put]
                try simp only [List.setIfInBounds_toArray]
                try simp only [List.set_cons_succ, List.set_cons_zero]
                refine wpAnyH_ready (rs := [23]) (by kernel_rfl) (by simp) ?_
                refine AllReadyH.cons (i := 23) (o := ⟨some 81, _, _, _, _, _⟩) rfl (fun K hK => ?_) ?_
                · go_simp
                  refine (CP.out _ HB.out).mono ?_
                  rintro e6 w8 ⟨d5, rfl, hd5, hva5, hb6⟩
                  have HB6p := HB
                  clear HB
                  have HB : Hid (Below W0.heap.size W0 w8) := Lib.hid (HB6p.out.trans (hb6.mono HB6p.out.size))
                  have HD5 := Lib.hid hd5
                  have HVA5 := Lib.hid hva5
                  have HVA4b := Lib.hid (HVA4.out.ext hb6)
                  clear hb6 hd5 hva5
                  refine hK.out _ _ ?_ (fun hHeld => ?_)
                  · exact HK.out _ HB.out
                  try simp only [Act.put]
                  try simp only [List.setIfInBounds_toArray]
                  try simp only [List.set_cons_succ, List.set_cons_zero]
                  refine wpAnyH_ready (rs := [24]) (by kernel_rfl) (by simp) ?_
                  refine AllReadyH.cons (i := 24) (o := ⟨some 82, _, _, _, _, _⟩) rfl (fun K hK => ?_) ?_
                  · go_simp
                    have hsm := same_any d4 d5 w8 HVA4b.out HVA5.out (by rw [HD4.out]; exact HS1.out)
                    rw [VD.val6, VD.val6] at hsm
                    refine hsm.mono ?_
                    clear hsm
                    intro e7 w9 h7
                    obtain ⟨rfl, hb7⟩ := ret_bool h7 (b := tb) (by rw [HTB.out, HD4.out, HD5.out])
                    have HB7p := HB
                    clear HB
                    have HB : Hid (Below W0.heap.size W0 w9) := Lib.hid (HB7p.out.trans (hb7.mono HB7p.out.size))
                    clear h7 hb7
                    refine hK.out _ _ ?_ (fun hHeld => ?_)
                    · exact HK.out _ HB.out
                    try simp only [Act.put]
                    try simp only [List.setIfInBounds_toArray]
                    try simp only [List.set_cons_succ, List.set_cons_zero]
                    refine wpAnyH_ready (rs := [27]) (by kernel_rfl) (by simp) ?_
                    refine AllReadyH.cons (i := 27) (o := ⟨some 85, _, _, _, _, _⟩) rfl (fun K hK => ?_) ?_
                    · go_simp
                      have hsm := sameR_any d f w9 (HLB8.out.va.ext HB.out) (HLB8.out.vb.ext HB.out) HS1.out
                      rw [VD.val6, VD.val6] at hsm
                      refine hsm.mono ?_
                      clear hsm
                      intro e8 w10 h8
                      obtain ⟨rfl, hb8⟩ := ret_bool h8 (b := tb) HTB.out
                      have HB8p := HB
                      clear HB
                      have HB : Hid (Below W0.heap.size W0 w10) := Lib.hid (HB8p.out.trans (hb8.mono HB8p.out.size))
                      clear h8 hb8
                      refine hK.out _ _ ?_ (fun hHeld => ?_)
                      · exact HK.out _ HB.out
                      try simp only [Act.put]
                      try simp only [List.setIfInBounds_toArray]
                      try simp only [List.set_cons_succ, List.set_cons_zero]
                      refine wpAnyH_take (i := 28) (oi := ⟨some 86, _, _, _, _, _⟩) (v := ?_) rfl (by kernel_rfl) (by kernel_rfl) (by kernel_rfl) (fun _ _ _ h => h) (Or.inl ⟨by rfl, ?_⟩) (by assumption) ?_; rotate_left; focus (intro w hSw; (try dsimp only at hSw); first | (go_simp; done) | (go_simp; with_reducible rfl))
                      try simp only [Act.put]
                      try simp only [List.setIfInBounds_toArray]
                      try simp only [List.set_cons_succ, List.set_cons_zero]
                      refine wpAnyH_take (i := 29) (oi := ⟨some 87, _, _, _, _, _⟩) (v := ?_) rfl (by kernel_rfl) (by kernel_rfl) (by kernel_rfl) (fun _ _ _ h => h) (Or.inl ⟨by rfl, ?_⟩) (by assumption) ?_; rotate_left; focus (intro w hSw; (try dsimp only at hSw); first | (go_simp; done) | (go_simp; with_reducible rfl))
                      try simp only [Act.put]
                      try simp only [List.setIfInBounds_toArray]
                      try simp only [List.set_cons_succ, List.set_cons_zero]
                      refine wpAnyH_take (i := 30) (oi := ⟨some 88, _, _, _, _, _⟩) (v := ?_) rfl (by kernel_rfl) (by kernel_rfl) (by kernel_rfl) (fun _ _ _ h => h) (Or.inl ⟨by rfl, ?_⟩) (by assumption) ?_; rotate_left; focus (intro w hSw; (try dsimp only at hSw); first | (go_simp; done) | (go_simp; with_reducible rfl))
                      try simp only [Act.put]
                      try simp only [List.setIfInBounds_toArray]
                      try simp only [List.set_cons_succ, List.set_cons_zero]
                      refine wpAnyH_take (i := 31) (oi := ⟨some 89, _, _, _, _, _⟩) (v := ?_) rfl (by kernel_rfl) (by kernel_rfl) (by kernel_rfl) (fun _ _ _ h => h) (Or.inl ⟨by rfl, ?_⟩) (by assumption) ?_; rotate_left; focus (intro w hSw; (try dsimp only at hSw); first | (go_simp; done) | (go_simp; with_reducible rfl))
                      try simp only [Act.put]
                      try simp only [List.setIfInBounds_toArray]
                      try simp only [List.set_cons_succ, List.set_cons_zero]
                      refine wpAnyH_take (i := 32) (oi := ⟨some 90, _, _, _, _, _⟩) (v := ?_) rfl (by kernel_rfl) (by kernel_rfl) (by kernel_rfl) (fun _ _ _ h => h) (Or.inl ⟨by rfl, ?_⟩) (by assumption) ?_; rotate_left; focus (intro w hSw; (try dsimp only at hSw); first | (go_simp; done) | (go_simp; with_reducible rfl))
                      try simp only [Act.put]
                      try simp only [List.setIfInBounds_toArray]
                      try simp only [List.set_cons_succ, List.set_cons_zero]
                      refine wpAnyH_take (i := 33) (oi := ⟨some 91, _, _, _, _, _⟩) (v := ?_) rfl (by kernel_rfl) (by kernel_rfl) (by kernel_rfl) (fun _ _ _ h => h) (Or.inl ⟨by rfl, ?_⟩) (by assumption) ?_; rotate_left; focus (intro w hSw; (try dsimp only at hSw); first | (go_simp; done) | (go_simp; with_reducible rfl))
                      try simp only [Act.put]
                      try simp only [List.setIfInBounds_toArray]
                      try simp only [List.set_cons_succ, List.set_cons_zero]
                      refine wpAnyH_take (i := 34) (oi := ⟨some 92, _, _, _, _, _⟩) (v := ?_) rfl (by kernel_rfl) (by kernel_rfl) (by kernel_rfl) (fun _ _ _ h => h) (Or.inl ⟨by rfl, ?_⟩) (by assumption) ?_; rotate_left; focus (intro w hSw; (try dsimp only at hSw); first | (go_simp; done) | (go_simp; with_reducible rfl))
                      try simp only [Act.put]
                      try simp only [List.setIfInBounds_toArray]
                      try simp only [List.set_cons_succ, List.set_cons_zero]
                      refine wpAnyH_take (i := 35) (oi := ⟨some 93, _, _, _, _, _⟩) (v := ?_) rfl (by kernel_rfl) (by kernel_rfl) (by kernel_rfl) (fun _ _ _ h => h) (Or.inl ⟨by rfl, ?_⟩) (by assumption) ?_; rotate_left; focus (intro w hSw; (try dsimp only at hSw); first | (go_simp; done) | (go_simp; with_reducible rfl))
                      try simp only [Act.put]
                      try simp only [List.setIfInBounds_toArray]
                      try simp only [List.set_cons_succ, List.set_cons_zero]
                      refine wpAnyH_take (i := 36) (oi := ⟨some 94, _, _, _, _, _⟩) (v := ?_) rfl (by kernel_rfl) (by kernel_rfl) (by kernel_rfl) (fun _ _ _ h => h) (Or.inl ⟨by rfl, ?_⟩) (by assumption) ?_; rotate_left; focus (intro w hSw; (try dsimp only at hSw); first | (go_simp; done) | (go_simp; with_reducible rfl))
                      try simp only [Act.put]
                      try simp only [List.setIfInBounds_toArray]
                      try simp only [List.set_cons_succ, List.set_cons_zero]
                      refine wpAnyH_take (i := 37) (oi := ⟨some 95, _, _, _, _, _⟩) (v := ?_) rfl (by kernel_rfl) (by kernel_rfl) (by kernel_rfl) (fun _ _ _ h => h) (Or.inl ⟨by rfl, ?_⟩) (by assumption) ?_; rotate_left; focus (intro w hSw; (try dsimp only at hSw); first | (go_simp; done) | (go_simp; with_reducible rfl))
                      try simp only [Act.put]
                      try simp only [List.setIfInBounds_toArray]
                      try simp only [List.set_cons_succ, List.set_cons_zero]
                      refine wpAnyH_take (i := 38) (oi := ⟨some 6, _, _, _, _, _⟩) (v := ?_) rfl (by kernel_rfl) (by kernel_rfl) (by kernel_rfl) (fun _ _ _ h => h) (Or.inl ⟨by rfl, ?_⟩) (by assumption) ?_; rotate_left; focus (intro w hSw; (try dsimp only at hSw); first | (go_simp; done) | (go_simp; with_reducible rfl))
                      try simp only [Act.put]
                      try simp only [List.setIfInBounds_toArray]
                      try simp only [List.set_cons_succ, List.set_cons_zero]
                      refine wpAnyH_done (by kernel_rfl) ?_ _
                      go_wp2
                      go_ret
                      exact ⟨rfl, HLB8.out.below.trans (HB.out.mono HLB8.out.below.size)⟩
                    exact AllReadyH.nil
                  exact AllReadyH.nil
                exact AllReadyH.nil
              exact AllReadyH.nil
            exact AllReadyH.nil
          exact AllReadyH.nil
        exact AllReadyH.nil
      exact AllReadyH.nil
    exact AllReadyH.nil
  exact AllReadyH.nil
end Go.Proofs.YtahiopjplfnlmaaGreatDoor
