/- RpcBack, where what it reads is of bulk at most 1048576: the law answers true, and its arguments read as they did. Conditions: none but what the card ties. Ahead of it: A value is copied into the document's type; walked. RpcAnswers: the law, walked. A call is copied: what is held. A call is copied back; walked. The document's Same at calls: walked. Whether a call is small: walked; what its message's size is at most. What a call that comes in holds, read off its reading. How great messages are, and what is read of them: plain. RpcBack: the law, walked. From the row's condition on the package-level variables to what the walks ask. -/
import Derived.Test.YthnbeebilomchaaGreatDoorMb6
import Derived.Deep.RegionHeld3
import Derived.Test.YthnbeebilomchaaGreatDoorMb4
import Derived.Test.YthnbeebilomchaaGreatDoorMb5
import Derived.Test.YthnbeebilomchaaGreatDoorMb1
import Derived.Test.YthnbeebilomchaaGreatDoorRows
import Derived.Lib.LaidU8T
import Derived.ProofKit
import Derived.OpenShut
import Derived.LaidMore
import Derived.Lay
import Derived.Stop.Joined
import Derived.Stop.LaidErr
import Derived.Lib.LaidTab
import Derived.Test.YthnbeebilomchaaGreatDoorTie
import Derived.Test.YthnbeebilomchaaGreatDoorCards
import Derived.SevenTiedAt
import Derived.Deep.DeepHandedRow
namespace Go.Proofs.YthnbeebilomchaaGreatDoor
open Go Go.RowKit

theorem to_end {W : World} {tm : Array Value} {R : Ending → World → Prop} {g : Nat} {u0 u1 u2 u3 u4 u5 : Value} (h2 : tm.getD 2 undef = .pointer (some ⟨g, 0, none⟩)) (hB : Blk W g #[u0, u1, u2, u3, u4, u5] 26)
    (hR : R (.returned (.agg #[u0, u1, u2, u3, u4, u5])) W) : bodyPost Tryz.prog Tryz.f12 R .ret { tmps := tm, defers := [] } W := by
  obtain ⟨d0, d1, d2, d3, d4, d5⟩ := hB.sixT
  rw [Array.getD_eq_getD_getElem?] at h2
  refine bodyPost_ret (v := .agg #[u0, u1, u2, u3, u4, u5]) ?_ rfl hR
  simp [results, Tryz.results12, go_sem, h2, d0, d1, d2, d3, d4, d5]
set_option maxHeartbeats 8000000 in
theorem to_any (d : VD) : ∀ (B : Nat) (W : World), B ≤ W.heap.size → ValAt W (fun k => k < B) d → sizeV d.v ≤ 1048576 → Calls Tryz.prog 12 #[d.val] W (OfE B W d.v) := by
  induction d using VD.ind with
  | h s o n t a c ks ka kc keys ih =>
    intro B W hBW h hw
    have hks : ks.length ≤ 1048576 := by
      have h1 := sizeV_eq (.mk s o n t a c ks ka kc keys)
      have h2 := sizesV_len (ks.map VD.v)
      simp only [VD.list, List.length_map] at h1 h2
      omega
    have HV := Lib.hid h
    have HI : Hid (∀ x ∈ ks, ∀ V, W.heap.size ≤ V.heap.size → ValAt V (fun k => k < B) x → Calls Tryz.prog 12 #[x.val] V (OfE B V x.v)) := Lib.hid fun x hx V hV hv => ih x hx B V (by omega) hv (by
      have h1 := sizeV_eq (.mk s o n t a c ks ka kc keys)
      have h2 := sizesV_mem (l := ks.map VD.v) (List.mem_map_of_mem hx)
      simp only [VD.list] at h1
      omega)
    clear ih h hw
    have hst := OV.start 26 36 B W (.mk s o n t a c ks ka kc keys)
    unfold box3V at hst
    simp only [VD.sort, VD.on, VD.n, VD.text, VD.a, VD.list, VD.c, VD.ka, VD.keys, VD.kc] at hst
    have HST := Lib.hid hst
    clear hst
    unfold VD.val VD.cells strV
    go_enter Tryz.func12, Tryz.ntmps12
    go_wp2_with fail
    go_loopw [4] (fun i wr => ∃ (vs : List VD) (la : Option Addr) (lc : Nat), vs.length ≤ ks.length ∧ i = .int .i64 vs.length ∧ Hid (OV 26 36 B W wr (VD.mk s o n t a c ks ka kc keys) vs la lc) ∧ Hid (vs.map VD.v = (ks.take vs.length).map VD.v)) (fun i _ => ks.length - (intOf i).toNat)
    case atStart => exact ⟨[], none, 0, Nat.zero_le _, rfl, HST, Lib.hid rfl⟩
    case round =>
      obtain ⟨vs, la, lc, hq, rfl, HO, HE⟩ := hrel
      have hwr := HO.out.blk.lt
      by_cases hlt : vs.length < ks.length
      · obtain ⟨x, hx⟩ := get_some hlt
        have hxm := List.mem_of_getElem? hx
        have hvr := (HV.out.ext HO.out.below)
        obtain ⟨eb, eo, ha, c0, c1, c2, c3, c4, c5⟩ := val_at hvr.row hx
        simp only [VD.a] at ha
        subst ha
        unfold strV at c3
        have hebB : eb < B := hvr.blk eb (by simp only [VD.list]; omega) rfl
        have a4 : wr.cell? ⟨W.heap.size, 4, none⟩ = some (.slice (some ⟨eb, eo, none⟩) ks.length c) := HO.out.arg.cell 4
        have HS : Hid (∀ w' : World, (∀ k, k ≤ W.heap.size → w'.heap[k]? = wr.heap[k]?) → w'.cell? ⟨W.heap.size, 4, none⟩ = some (.slice (some ⟨eb, eo, none⟩) ks.length c) ∧ w'.cell? ⟨eb, eo + vs.length * 6, none⟩ = some (.int .i64 x.sort) ∧ w'.cell? ⟨eb, eo + vs.length * 6 + 1, none⟩ = some (.bool x.on) ∧ w'.cell? ⟨eb, eo + vs.length * 6 + 2, none⟩ = some (.int .i64 x.n) ∧ w'.cell? ⟨eb, eo + vs.length * 6 + 3, none⟩ = some (.string ⟨x.text.toArray⟩) ∧ w'.cell? ⟨eb, eo + vs.length * 6 + 4, none⟩ = some (.slice x.a x.list.length x.c) ∧ w'.cell? ⟨eb, eo + vs.length * 6 + 5, none⟩ = some (.slice x.ka x.keys.length x.kc)) := Lib.hid fun w' hw => by
          have k : ∀ g j, g ≤ W.heap.size → w'.cell? ⟨g, j, none⟩ = wr.cell? ⟨g, j, none⟩ := fun g j hg => World.cell?_of_block (w := wr) (a := ⟨g, j, none⟩) (hw g hg)
          exact ⟨(k _ _ (Nat.le_refl _)).trans a4, (k _ _ (by omega)).trans c0, (k _ _ (by omega)).trans c1, (k _ _ (by omega)).trans c2, (k _ _ (by omega)).trans c3, (k _ _ (by omega)).trans c4, (k _ _ (by omega)).trans c5⟩
        have HT : Hid ((ks.take (vs.length + 1)).map VD.v = (ks.take vs.length).map VD.v ++ [x.v]) := Lib.hid (by rw [List.take_add_one, hx, Option.toList_some, List.map_append]; rfl)
        have hdr : Below wr.heap.size wr wr.drew := (Below.refl _ _).drew
        have HO1 := Lib.hid (HO.out.ext hdr)
        have hc := HI.out x hxm wr.drew HO1.out.below.size ((hvr.kid x hxm).ext hdr)
        rw [VD.val6] at hc
        have Hc := Lib.hid hc
        have hq0 := HO1.out.blk.cell 4
        clear hdr hc hx hxm hvr hebB
        go_upto_region 5 with (fail)
        refine wp_region_held_drew (S := fun w' => w'.cell? ⟨W.heap.size, 4, none⟩ = some (.slice (some ⟨eb, eo, none⟩) ks.length c) ∧ w'.cell? ⟨eb, eo + vs.length * 6, none⟩ = some (.int .i64 x.sort) ∧ w'.cell? ⟨eb, eo + vs.length * 6 + 1, none⟩ = some (.bool x.on) ∧ w'.cell? ⟨eb, eo + vs.length * 6 + 2, none⟩ = some (.int .i64 x.n) ∧ w'.cell? ⟨eb, eo + vs.length * 6 + 3, none⟩ = some (.string ⟨x.text.toArray⟩) ∧ w'.cell? ⟨eb, eo + vs.length * 6 + 4, none⟩ = some (.slice x.a x.list.length x.c) ∧ w'.cell? ⟨eb, eo + vs.length * 6 + 5, none⟩ = some (.slice x.ka x.keys.length x.kc)) (by kernel_rfl) ?_ (fun hHeld => ?_)
        · exact HS.out _ (fun _ _ => rfl)
        refine wpAnyH_take (i := 0) (oi := ⟨some 23, _, _, _, _, _⟩) (v := ?_) rfl (by kernel_rfl) (by kernel_rfl) (by kernel_rfl) (fun _ _ _ h => h) (Or.inl ⟨by rfl, ?_⟩) (by assumption) ?_; rotate_left; focus (intro w hSw; (try dsimp only at hSw); first | (go_simp; done) | (go_simp; with_reducible rfl))
        try simp only [Act.put]
        try simp only [List.setIfInBounds_toArray]
        try simp only [List.set_cons_succ, List.set_cons_zero]
        refine wpAnyH_take (i := 2) (oi := ⟨some 25, _, _, _, _, _⟩) (v := ?_) rfl (by kernel_rfl) (by kernel_rfl) (by kernel_rfl) (fun _ _ _ h => h) (Or.inl ⟨by rfl, ?_⟩) (by assumption) ?_; rotate_left; focus (intro w hSw; (try dsimp only at hSw); first | (go_simp; done) | (go_simp; with_reducible rfl))
        try simp only [Act.put]
        try simp only [List.setIfInBounds_toArray]
        try simp only [List.set_cons_succ, List.set_cons_zero]
        refine wpAnyH_take (i := 3) (oi := ⟨some 26, _, _, _, _, _⟩) (v := ?_) rfl (by kernel_rfl) (by kernel_rfl) (by kernel_rfl) (fun _ _ _ h => h) (Or.inl ⟨by rfl, ?_⟩) (by assumption) ?_; rotate_left; focus (intro w hSw; (try dsimp only at hSw); obtain ⟨s4, s0, s1, s2, s3, s5, s6⟩ := hSw; first | (go_simp; done) | (go_simp; with_reducible rfl))
        try simp only [Act.put]
        try simp only [List.setIfInBounds_toArray]
        try simp only [List.set_cons_succ, List.set_cons_zero]
        refine wpAnyH_take (i := 4) (oi := ⟨some 27, _, _, _, _, _⟩) (v := ?_) rfl (by kernel_rfl) (by kernel_rfl) (by kernel_rfl) (fun _ _ _ h => h) (Or.inl ⟨by rfl, ?_⟩) (by assumption) ?_; rotate_left; focus (intro w hSw; (try dsimp only at hSw); first | (go_simp; done) | (go_simp; with_reducible rfl))
        try simp only [Act.put]
        try simp only [List.setIfInBounds_toArray]
        try simp only [List.set_cons_succ, List.set_cons_zero]
        refine wpAnyH_take (i := 5) (oi := ⟨some 28, _, _, _, _, _⟩) (v := ?_) rfl (by kernel_rfl) (by kernel_rfl) (by kernel_rfl) (fun _ _ _ h => h) (Or.inl ⟨by rfl, ?_⟩) (by assumption) ?_; rotate_left; focus (intro w hSw; (try dsimp only at hSw); first | (go_simp; done) | (go_simp; with_reducible rfl))
        try simp only [Act.put]
        try simp only [List.setIfInBounds_toArray]
        try simp only [List.set_cons_succ, List.set_cons_zero]
        refine wpAnyH_take (i := 6) (oi := ⟨some 29, _, _, _, _, _⟩) (v := ?_) rfl (by kernel_rfl) (by kernel_rfl) (by kernel_rfl) (fun _ _ _ h => h) (Or.inl ⟨by rfl, ?_⟩) (by assumption) ?_; rotate_left; focus (intro w hSw; (try dsimp only at hSw); obtain ⟨s4, s0, s1, s2, s3, s5, s6⟩ := hSw; first | (go_simp; done) | (go_simp; with_reducible rfl))
        try simp only [Act.put]
        try simp only [List.setIfInBounds_toArray]
        try simp only [List.set_cons_succ, List.set_cons_zero]
        refine wpAnyH_ready (rs := [1, 7]) (by kernel_rfl) (by simp) ?_
        refine AllReadyH.cons (i := 1) (o := ⟨some 24, _, _, _, _, _⟩) rfl (fun K hK => ?_) ?_
        · go_simp
          refine hK.out _ _ ?_ (fun hHeld => ?_)
          · exact hHeld
          try simp only [Act.put]
          try simp only [List.setIfInBounds_toArray]
          try simp only [List.set_cons_succ, List.set_cons_zero]
          refine wpAnyH_ready (rs := [7]) (by kernel_rfl) (by simp) ?_
          refine AllReadyH.cons (i := 7) (o := ⟨some 30, _, _, _, _, _⟩) rfl (fun K hK => ?_) ?_
          · go_simp
            refine Hc.out.mono ?_
            rintro e w2 ⟨d2, rfl, hd2, hva2, hb2⟩
            have HO2 := Lib.hid (HO1.out.ext hb2)
            have Hown2 := Lib.hid HO2.out.own
            have HB2 := Lib.hid hb2
            have HVA2 := Lib.hid hva2
            have HD2 := Lib.hid hd2
            have hws2 := HO2.out.blk.lt
            have hq2 := HO2.out.blk.cell 4
            have HH2 : Hid (∀ k, k ≤ W.heap.size → w2.heap[k]? = wr.heap[k]?) := Lib.hid fun k hk => hb2.block k (show k < wr.heap.size by omega)
            have hq3 := (HO2.out.blk.alloc (.cells #[.int .i64 d2.sort, .bool d2.on, .int .i64 d2.n, .string ⟨d2.text.toArray⟩, .slice d2.a d2.list.length d2.c, .slice d2.ka d2.keys.length d2.kc] 26)).cell 4
            have HH3 : Hid (∀ k, k ≤ W.heap.size → (w2.alloc (.cells #[.int .i64 d2.sort, .bool d2.on, .int .i64 d2.n, .string ⟨d2.text.toArray⟩, .slice d2.a d2.list.length d2.c, .slice d2.ka d2.keys.length d2.kc] 26)).heap[k]? = wr.heap[k]?) := Lib.hid fun k hk => (Below.heap_alloc _ _ k (by omega)).trans (HH2.out k hk)
            clear hb2 hva2 hd2
            refine hK.out _ _ ?_ (fun hHeld => ?_)
            · exact HS.out _ HH2.out
            try simp only [Act.put]
            try simp only [List.setIfInBounds_toArray]
            try simp only [List.set_cons_succ, List.set_cons_zero]
            refine wpAnyH_ready (rs := [8]) (by kernel_rfl) (by simp) ?_
            refine AllReadyH.cons (i := 8) (o := ⟨some 31, _, _, _, _, _⟩) rfl (fun K hK => ?_) ?_
            · go_simp
              refine hK.out _ _ ?_ (fun hHeld => ?_)
              · exact HS.out _ HH3.out
              try simp only [Act.put]
              try simp only [List.setIfInBounds_toArray]
              try simp only [List.set_cons_succ, List.set_cons_zero]
              refine wpAnyH_ready (rs := [9]) (by kernel_rfl) (by simp) ?_
              refine AllReadyH.cons (i := 9) (o := ⟨some 32, _, _, _, _, _⟩) rfl (fun K hK => ?_) ?_
              · refine step_append_Own rfl (.tmp 24) (.tmp 31) 23 rfl (W.heap.size + 3) 26 _ 6 88 Tryz.underlying23 Tryz.infoDoc rfl (by decide) la vs.length lc _ (by simp [go_sem]) (by exact Hown2.out.alloc _) _ 1 1 [.int .i64 d2.sort, .bool d2.on, .int .i64 d2.n, .string ⟨d2.text.toArray⟩, .slice d2.a d2.list.length d2.c, .slice d2.ka d2.keys.length d2.kc] (by simp [go_sem]; rfl) (by exact Row.new1 (by simp) rfl rfl) (by intro u hu; simp at hu; rcases hu with rfl | rfl | rfl | rfl | rfl | rfl <;> rfl) (by unfold maxLen; omega) (by omega) (by simp; omega) ?_
                intro a6 c6 w6 hown6 hg6 hbk6
                have HO6 := Lib.hid hown6
                have HG6 := Lib.hid hg6
                have HK6 := Lib.hid hbk6
                have HH6 : Hid (∀ k, k ≤ W.heap.size → w6.heap[k]? = wr.heap[k]?) := Lib.hid fun k hk => (hg6.block k (by simp; omega) (fun e => HO2.out.own.apart (by omega) e)).trans (HH3.out k hk)
                have HH7 : Hid (∀ k, k ≤ W.heap.size → (w6.setCell ⟨W.heap.size + 2, 4, none⟩ (.slice a6 (vs.length + 1) c6)).heap[k]? = wr.heap[k]?) := Lib.hid fun k hk => (Below.heap_setCell _ ⟨W.heap.size + 2, 4, none⟩ _ k (by show k ≠ W.heap.size + 2; omega)).trans (HH6.out k hk)
                have hb6 : Blk w6 (W.heap.size + 2) #[.int .i64 s, .bool o, .int .i64 n, .string ⟨t.toArray⟩, .slice la vs.length lc, .slice ka keys.length kc] 26 := (hg6.block (W.heap.size + 2) (by simp; omega) (fun e => HO2.out.own.apart (by omega) e)).trans (HO2.out.blk.alloc _)
                have hq6 := hb6.cell 4
                have hf6 := hb6.free 4
                clear hown6 hg6 hbk6 hb6
                refine hK.out _ _ ?_ (fun hHeld => ?_)
                · exact HS.out _ HH6.out
                try simp only [Act.put]
                try simp only [List.setIfInBounds_toArray]
                try simp only [List.set_cons_succ, List.set_cons_zero]
                refine wpAnyH_take (i := 10) (oi := ⟨some 33, _, _, _, _, _⟩) (v := ?_) rfl (by kernel_rfl) (by kernel_rfl) (by kernel_rfl) (fun _ _ _ h => h) (Or.inl ⟨by rfl, ?_⟩) (by assumption) ?_; rotate_left; focus (intro w hSw; (try dsimp only at hSw); first | (go_simp; done) | (go_simp; with_reducible rfl))
                try simp only [Act.put]
                try simp only [List.setIfInBounds_toArray]
                try simp only [List.set_cons_succ, List.set_cons_zero]
                refine wpAnyH_ready (rs := [11]) (by kernel_rfl) (by simp) ?_
                refine AllReadyH.cons (i := 11) (o := ⟨none, _, _, _, _, _⟩) rfl (fun K hK => ?_) ?_
                · go_simp
                  refine hK.out _ _ ?_ (fun hHeld => ?_)
                  · exact HS.out _ HH7.out
                  try simp only [Act.put]
                  try simp only [List.setIfInBounds_toArray]
                  try simp only [List.set_cons_succ, List.set_cons_zero]
                  refine wpAnyH_done (by kernel_rfl) ?_ _
                  have HN : Hid (OV 26 36 B W (w6.setCell ⟨W.heap.size + 2, 4, none⟩ (.slice a6 (vs.length + 1) c6)) (VD.mk s o n t (some ⟨eb, eo, none⟩) c ks ka kc keys) (vs ++ [d2]) a6 c6) := Lib.hid (HO1.out.push hBW HB2.out HVA2.out _ (by rw [List.flatMap_append, List.flatMap_singleton, cells_list]; exact HO6.out) HG6.out HK6.out)
                  go_wp2
                  go_roundw
                  case rel => exact ⟨vs ++ [d2], a6, c6, by rw [List.length_append]; exact hlt, by rw [List.length_append]; go_num, HN, Lib.hid (by rw [List.length_append, List.map_append, HE.out]; simp [HT.out, HD2.out])⟩
                  case measure => simp [intOf]; omega
                exact AllReadyH.nil
              exact AllReadyH.nil
            exact AllReadyH.nil
          exact AllReadyH.nil
        refine AllReadyH.cons (i := 7) (o := ⟨some 30, _, _, _, _, _⟩) rfl (fun K hK => ?_) ?_
        · go_simp
          refine Hc.out.mono ?_
          rintro e w2 ⟨d2, rfl, hd2, hva2, hb2⟩
          have HO2 := Lib.hid (HO1.out.ext hb2)
          have Hown2 := Lib.hid HO2.out.own
          have HB2 := Lib.hid hb2
          have HVA2 := Lib.hid hva2
          have HD2 := Lib.hid hd2
          have hws2 := HO2.out.blk.lt
          have hq2 := HO2.out.blk.cell 4
          have HH2 : Hid (∀ k, k ≤ W.heap.size → w2.heap[k]? = wr.heap[k]?) := Lib.hid fun k hk => hb2.block k (show k < wr.heap.size by omega)
          have hq3 := (HO2.out.blk.alloc (.cells #[.int .i64 d2.sort, .bool d2.on, .int .i64 d2.n, .string ⟨d2.text.toArray⟩, .slice d2.a d2.list.length d2.c, .slice d2.ka d2.keys.length d2.kc] 26)).cell 4
          have HH3 : Hid (∀ k, k ≤ W.heap.size → (w2.alloc (.cells #[.int .i64 d2.sort, .bool d2.on, .int .i64 d2.n, .string ⟨d2.text.toArray⟩, .slice d2.a d2.list.length d2.c, .slice d2.ka d2.keys.length d2.kc] 26)).heap[k]? = wr.heap[k]?) := Lib.hid fun k hk => (Below.heap_alloc _ _ k (by omega)).trans (HH2.out k hk)
          clear hb2 hva2 hd2
          refine hK.out _ _ ?_ (fun hHeld => ?_)
          · exact HS.out _ HH2.out
          try simp only [Act.put]
          try simp only [List.setIfInBounds_toArray]
          try simp only [List.set_cons_succ, List.set_cons_zero]
          refine wpAnyH_ready (rs := [1, 8]) (by kernel_rfl) (by simp) ?_
          refine AllReadyH.cons (i := 1) (o := ⟨some 24, _, _, _, _, _⟩) rfl (fun K hK => ?_) ?_
          · go_simp
            refine hK.out _ _ ?_ (fun hHeld => ?_)
            · exact hHeld
            try simp only [Act.put]
            try simp only [List.setIfInBounds_toArray]
            try simp only [List.set_cons_succ, List.set_cons_zero]
            refine wpAnyH_ready (rs := [8]) (by kernel_rfl) (by simp) ?_
            refine AllReadyH.cons (i := 8) (o := ⟨some 31, _, _, _, _, _⟩) rfl (fun K hK => ?_) ?_
            · go_simp
              refine hK.out _ _ ?_ (fun hHeld => ?_)
              · exact HS.out _ HH3.out
              try simp only [Act.put]
              try simp only [List.setIfInBounds_toArray]
              try simp only [List.set_cons_succ, List.set_cons_zero]
              refine wpAnyH_ready (rs := [9]) (by kernel_rfl) (by simp) ?_
              refine AllReadyH.cons (i := 9) (o := ⟨some 32, _, _, _, _, _⟩) rfl (fun K hK => ?_) ?_
              · refine step_append_Own rfl (.tmp 24) (.tmp 31) 23 rfl (W.heap.size + 3) 26 _ 6 88 Tryz.underlying23 Tryz.infoDoc rfl (by decide) la vs.length lc _ (by simp [go_sem]) (by exact Hown2.out.alloc _) _ 1 1 [.int .i64 d2.sort, .bool d2.on, .int .i64 d2.n, .string ⟨d2.text.toArray⟩, .slice d2.a d2.list.length d2.c, .slice d2.ka d2.keys.length d2.kc] (by simp [go_sem]; rfl) (by exact Row.new1 (by simp) rfl rfl) (by intro u hu; simp at hu; rcases hu with rfl | rfl | rfl | rfl | rfl | rfl <;> rfl) (by unfold maxLen; omega) (by omega) (by simp; omega) ?_
                intro a6 c6 w6 hown6 hg6 hbk6
                have HO6 := Lib.hid hown6
                have HG6 := Lib.hid hg6
                have HK6 := Lib.hid hbk6
                have HH6 : Hid (∀ k, k ≤ W.heap.size → w6.heap[k]? = wr.heap[k]?) := Lib.hid fun k hk => (hg6.block k (by simp; omega) (fun e => HO2.out.own.apart (by omega) e)).trans (HH3.out k hk)
                have HH7 : Hid (∀ k, k ≤ W.heap.size → (w6.setCell ⟨W.heap.size + 2, 4, none⟩ (.slice a6 (vs.length + 1) c6)).heap[k]? = wr.heap[k]?) := Lib.hid fun k hk => (Below.heap_setCell _ ⟨W.heap.size + 2, 4, none⟩ _ k (by show k ≠ W.heap.size + 2; omega)).trans (HH6.out k hk)
                have hb6 : Blk w6 (W.heap.size + 2) #[.int .i64 s, .bool o, .int .i64 n, .string ⟨t.toArray⟩, .slice la vs.length lc, .slice ka keys.length kc] 26 := (hg6.block (W.heap.size + 2) (by simp; omega) (fun e => HO2.out.own.apart (by omega) e)).trans (HO2.out.blk.alloc _)
                have hq6 := hb6.cell 4
                have hf6 := hb6.free 4
                clear hown6 hg6 hbk6 hb6
                refine hK.out _ _ ?_ (fun hHeld => ?_)
                · exact HS.out _ HH6.out
                try simp only [Act.put]
                try simp only [List.setIfInBounds_toArray]
                try simp only [List.set_cons_succ, List.set_cons_zero]
                refine wpAnyH_take (i := 10) (oi := ⟨some 33, _, _, _, _, _⟩) (v := ?_) rfl (by kernel_rfl) (by kernel_rfl) (by kernel_rfl) (fun _ _ _ h => h) (Or.inl ⟨by rfl, ?_⟩) (by assumption) ?_; rotate_left; focus (intro w hSw; (try dsimp only at hSw); first | (go_simp; done) | (go_simp; with_reducible rfl))
                try simp only [Act.put]
                try simp only [List.setIfInBounds_toArray]
                try simp only [List.set_cons_succ, List.set_cons_zero]
                refine wpAnyH_ready (rs := [11]) (by kernel_rfl) (by simp) ?_
                refine AllReadyH.cons (i := 11) (o := ⟨none, _, _, _, _, _⟩) rfl (fun K hK => ?_) ?_
                · go_simp
                  refine hK.out _ _ ?_ (fun hHeld => ?_)
                  · exact HS.out _ HH7.out
                  try simp only [Act.put]
                  try simp only [List.setIfInBounds_toArray]
                  try simp only [List.set_cons_succ, List.set_cons_zero]
                  refine wpAnyH_done (by kernel_rfl) ?_ _
                  have HN : Hid (OV 26 36 B W (w6.setCell ⟨W.heap.size + 2, 4, none⟩ (.slice a6 (vs.length + 1) c6)) (VD.mk s o n t (some ⟨eb, eo, none⟩) c ks ka kc keys) (vs ++ [d2]) a6 c6) := Lib.hid (HO1.out.push hBW HB2.out HVA2.out _ (by rw [List.flatMap_append, List.flatMap_singleton, cells_list]; exact HO6.out) HG6.out HK6.out)
                  go_wp2
                  go_roundw
                  case rel => exact ⟨vs ++ [d2], a6, c6, by rw [List.length_append]; exact hlt, by rw [List.length_append]; go_num, HN, Lib.hid (by rw [List.length_append, List.map_append, HE.out]; simp [HT.out, HD2.out])⟩
                  case measure => simp [intOf]; omega
                exact AllReadyH.nil
              exact AllReadyH.nil
            exact AllReadyH.nil
          refine AllReadyH.cons (i := 8) (o := ⟨some 31, _, _, _, _, _⟩) rfl (fun K hK => ?_) ?_
          · go_simp
            refine hK.out _ _ ?_ (fun hHeld => ?_)
            · exact HS.out _ HH3.out
            try simp only [Act.put]
            try simp only [List.setIfInBounds_toArray]
            try simp only [List.set_cons_succ, List.set_cons_zero]
            refine wpAnyH_ready (rs := [1]) (by kernel_rfl) (by simp) ?_
            refine AllReadyH.cons (i := 1) (o := ⟨some 24, _, _, _, _, _⟩) rfl (fun K hK => ?_) ?_
            · go_simp
              refine hK.out _ _ ?_ (fun hHeld => ?_)
              · exact hHeld
              try simp only [Act.put]
              try simp only [List.setIfInBounds_toArray]
              try simp only [List.set_cons_succ, List.set_cons_zero]
              refine wpAnyH_ready (rs := [9]) (by kernel_rfl) (by simp) ?_
              refine AllReadyH.cons (i := 9) (o := ⟨some 32, _, _, _, _, _⟩) rfl (fun K hK => ?_) ?_
              · refine step_append_Own rfl (.tmp 24) (.tmp 31) 23 rfl (W.heap.size + 3) 26 _ 6 88 Tryz.underlying23 Tryz.infoDoc rfl (by decide) la vs.length lc _ (by simp [go_sem]) (by exact Hown2.out.alloc _) _ 1 1 [.int .i64 d2.sort, .bool d2.on, .int .i64 d2.n, .string ⟨d2.text.toArray⟩, .slice d2.a d2.list.length d2.c, .slice d2.ka d2.keys.length d2.kc] (by simp [go_sem]; rfl) (by exact Row.new1 (by simp) rfl rfl) (by intro u hu; simp at hu; rcases hu with rfl | rfl | rfl | rfl | rfl | rfl <;> rfl) (by unfold maxLen; omega) (by omega) (by simp; omega) ?_
                intro a6 c6 w6 hown6 hg6 hbk6
                have HO6 := Lib.hid hown6
                have HG6 := Lib.hid hg6
                have HK6 := Lib.hid hbk6
                have HH6 : Hid (∀ k, k ≤ W.heap.size → w6.heap[k]? = wr.heap[k]?) := Lib.hid fun k hk => (hg6.block k (by simp; omega) (fun e => HO2.out.own.apart (by omega) e)).trans (HH3.out k hk)
                have HH7 : Hid (∀ k, k ≤ W.heap.size → (w6.setCell ⟨W.heap.size + 2, 4, none⟩ (.slice a6 (vs.length + 1) c6)).heap[k]? = wr.heap[k]?) := Lib.hid fun k hk => (Below.heap_setCell _ ⟨W.heap.size + 2, 4, none⟩ _ k (by show k ≠ W.heap.size + 2; omega)).trans (HH6.out k hk)
                have hb6 : Blk w6 (W.heap.size + 2) #[.int .i64 s, .bool o, .int .i64 n, .string ⟨t.toArray⟩, .slice la vs.length lc, .slice ka keys.length kc] 26 := (hg6.block (W.heap.size + 2) (by simp; omega) (fun e => HO2.out.own.apart (by omega) e)).trans (HO2.out.blk.alloc _)
                have hq6 := hb6.cell 4
                have hf6 := hb6.free 4
                clear hown6 hg6 hbk6 hb6
                refine hK.out _ _ ?_ (fun hHeld => ?_)
                · exact HS.out _ HH6.out
                try simp only [Act.put]
                try simp only [List.setIfInBounds_toArray]
                try simp only [List.set_cons_succ, List.set_cons_zero]
                refine wpAnyH_take (i := 10) (oi := ⟨some 33, _, _, _, _, _⟩) (v := ?_) rfl (by kernel_rfl) (by kernel_rfl) (by kernel_rfl) (fun _ _ _ h => h) (Or.inl ⟨by rfl, ?_⟩) (by assumption) ?_; rotate_left; focus (intro w hSw; (try dsimp only at hSw); first | (go_simp; done) | (go_simp; with_reducible rfl))
                try simp only [Act.put]
                try simp only [List.setIfInBounds_toArray]
                try simp only [List.set_cons_succ, List.set_cons_zero]
                refine wpAnyH_ready (rs := [11]) (by kernel_rfl) (by simp) ?_
                refine AllReadyH.cons (i := 11) (o := ⟨none, _, _, _, _, _⟩) rfl (fun K hK => ?_) ?_
                · go_simp
                  refine hK.out _ _ ?_ (fun hHeld => ?_)
                  · exact HS.out _ HH7.out
                  try simp only [Act.put]
                  try simp only [List.setIfInBounds_toArray]
                  try simp only [List.set_cons_succ, List.set_cons_zero]
                  refine wpAnyH_done (by kernel_rfl) ?_ _
                  have HN : Hid (OV 26 36 B W (w6.setCell ⟨W.heap.size + 2, 4, none⟩ (.slice a6 (vs.length + 1) c6)) (VD.mk s o n t (some ⟨eb, eo, none⟩) c ks ka kc keys) (vs ++ [d2]) a6 c6) := Lib.hid (HO1.out.push hBW HB2.out HVA2.out _ (by rw [List.flatMap_append, List.flatMap_singleton, cells_list]; exact HO6.out) HG6.out HK6.out)
                  go_wp2
                  go_roundw
                  case rel => exact ⟨vs ++ [d2], a6, c6, by rw [List.length_append]; exact hlt, by rw [List.length_append]; go_num, HN, Lib.hid (by rw [List.length_append, List.map_append, HE.out]; simp [HT.out, HD2.out])⟩
                  case measure => simp [intOf]; omega
                exact AllReadyH.nil
              exact AllReadyH.nil
            exact AllReadyH.nil
          exact AllReadyH.nil
        exact AllReadyH.nil
      · have hlen : vs.length = ks.length := by omega
        have HF := Lib.hid (HO.out.fin hBW HV.out (by rw [HE.out, hlen, List.take_length]; rfl))
        have y := HO.out.blk.sixT
        obtain ⟨y0, y1, y2, y3, y4, y5⟩ := y
        have f0 := HO.out.res.free 0
        have f1 := HO.out.res.free 1
        have f2 := HO.out.res.free 2
        have f3 := HO.out.res.free 3
        have f4 := HO.out.res.free 4
        have f5 := HO.out.res.free 5
        have a4 : wr.cell? ⟨W.heap.size, 4, none⟩ = some (.slice a ks.length c) := HO.out.arg.cell 4
        have z := HO.out.res.sixT
        obtain ⟨z0, z1, z2, z3, z4, z5⟩ := z
        have hrl := HO.out.res.lt
        clear HE hlen
        go_wp2
        refine to_end (g := W.heap.size + 1) rfl (store6 HO.out.res) ?_
        exact HF.out
end Go.Proofs.YthnbeebilomchaaGreatDoor

namespace Go.Proofs.YthnbeebilomchaaGreatDoor
open Go Go.RowKit

/-- two arguments in their boxes, their rows below -/
structure AB (w W : World) (d f : VD) : Prop where
  one : Blk W w.heap.size #[.int .i64 d.sort, .bool d.on, .int .i64 d.n, .string ⟨d.text.toArray⟩, .slice d.a d.list.length d.c, .slice d.ka d.keys.length d.kc] 26
  two : Blk W (w.heap.size + 1) #[.int .i64 f.sort, .bool f.on, .int .i64 f.n, .string ⟨f.text.toArray⟩, .slice f.a f.list.length f.c, .slice f.ka f.keys.length f.kc] 26
  glob : Glob W
  va : ValAt W (fun k => k < w.heap.size) d
  vb : ValAt W (fun k => k < w.heap.size) f
  below : Below w.heap.size w W
  lo : 8 ≤ w.heap.size
theorem AB.sz {w W : World} {d f : VD} (h : AB w W d f) : w.heap.size + 2 ≤ W.heap.size := h.two.lt
theorem AB.keep {w W W' : World} {d f : VD} (h : AB w W d f) {B : Nat} (hb : Below B W W') (hB : w.heap.size + 2 ≤ B) : AB w W' d f :=
  ⟨h.one.below hb (by omega), h.two.below hb (by omega), h.glob.below hb (by have := h.lo; omega), h.va.congr fun g hg _ => hb.block g (by omega), h.vb.congr fun g hg _ => hb.block g (by omega), h.below.trans (hb.mono (by omega)), h.lo⟩
theorem AB.ext {w W W' : World} {d f : VD} (h : AB w W d f) (hb : Below W.heap.size W W') : AB w W' d f := h.keep hb h.sz
theorem AB.start {w : World} {d f : VD} (hG : Glob w) (hd : ValAt w (fun _ => True) d) (hf : ValAt w (fun _ => True) f) :
    AB w ((w.alloc (.cells #[.int .i64 d.sort, .bool d.on, .int .i64 d.n, .string ⟨d.text.toArray⟩, .slice d.a d.list.length d.c, .slice d.ka d.keys.length d.kc] 26)).alloc (.cells #[.int .i64 f.sort, .bool f.on, .int .i64 f.n, .string ⟨f.text.toArray⟩, .slice f.a f.list.length f.c, .slice f.ka f.keys.length f.kc] 26)) d f := by
  have hb : Below w.heap.size w ((w.alloc (.cells #[.int .i64 d.sort, .bool d.on, .int .i64 d.n, .string ⟨d.text.toArray⟩, .slice d.a d.list.length d.c, .slice d.ka d.keys.length d.kc] 26)).alloc (.cells #[.int .i64 f.sort, .bool f.on, .int .i64 f.n, .string ⟨f.text.toArray⟩, .slice f.a f.list.length f.c, .slice f.ka f.keys.length f.kc] 26)) := (below_a1 w _).alloc (by simp) _
  exact ⟨(Blk.new rfl).alloc _, Blk.new (by simp), hG.ext hb, (hd.mono fun _ _ h => h).ext hb, (hf.mono fun _ _ h => h).ext hb, hb, hG.size⟩
/-- a box that holds a value -/
structure BoxA (w W : World) (g : Nat) (v : V) : Prop where
  lo : w.heap.size + 2 ≤ g
  ex : ∃ y : VD, y.v = v ∧ Blk W g #[.int .i64 y.sort, .bool y.on, .int .i64 y.n, .string ⟨y.text.toArray⟩, .slice y.a y.list.length y.c, .slice y.ka y.keys.length y.kc] 36 ∧ ValAt W (fun k => k ≠ g) y
theorem BoxA.ext {w W W' : World} {g : Nat} {v : V} (h : BoxA w W g v) (hb : Below W.heap.size W W') : BoxA w W' g v := by
  obtain ⟨y, h1, h2, h3⟩ := h.ex
  exact ⟨h.lo, y, h1, h2.ext hb, h3.ext hb⟩
/-- a slot that holds a value -/
def CopyS (x : Value) (v : V) (P : Nat → Prop) (W : World) : Prop := ∃ y : VD, x = .agg #[.int .i64 y.sort, .bool y.on, .int .i64 y.n, .string ⟨y.text.toArray⟩, .slice y.a y.list.length y.c, .slice y.ka y.keys.length y.kc] ∧ y.v = v ∧ ValAt W P y
theorem CopyS.ext {x : Value} {v : V} {P : Nat → Prop} {W W' : World} (h : CopyS x v P W) (hb : Below W.heap.size W W') : CopyS x v P W' := by
  obtain ⟨y, h1, h2, h3⟩ := h
  exact ⟨y, h1, h2, h3.ext hb⟩
theorem CopyS.mono {x : Value} {v : V} {P Q : Nat → Prop} {W : World} (h : CopyS x v P W) (hp : ∀ g, P g → g < W.heap.size → Q g) : CopyS x v Q W := by
  obtain ⟨y, h1, h2, h3⟩ := h
  exact ⟨y, h1, h2, h3.mono hp⟩
/-- not the box -/
def NB (D : Nat → Bool) (s : Nat → Value) (g : Nat) : Prop := D 5 = true → s 7 ≠ .pointer (some ⟨g, 0, none⟩)
structure A3 (w : World) (d f : VD) (D : Nat → Bool) (s : Nat → Value) (W : World) : Prop where
  ab : AB w W d f
  c29 : D 1 = true → D 6 = false → CopyS (s 29) d.v (NB D s) W
  c31 : D 3 = true → D 6 = false → CopyS (s 31) f.v (NB D s) W
  c32 : D 4 = true → D 6 = false → CopyS (s 32) (replyW d.v f.v) (NB D s) W
  b0 : D 5 = true → ∃ g, s 7 = .pointer (some ⟨g, 0, none⟩) ∧ w.heap.size + 2 ≤ g ∧ (D 6 = false → Blk W g #[.int .i64 0, .bool false, .int .i64 0, .string { data := #[] }, .slice none 0 0, .slice none 0 0] 36) ∧ (D 6 = true → BoxA w W g (replyW d.v f.v))
section
variable {w : World} {d f : VD} {D : Nat → Bool} {s : Nat → Value} {W W' : World}
theorem A3.start (h : AB w W d f) (d1 : D 1 = false) (d3 : D 3 = false) (d4 : D 4 = false) (d5 : D 5 = false) : A3 w d f D s W :=
  ⟨h, fun e => (by rw [d1] at e; cases e), fun e => (by rw [d3] at e; cases e), fun e => (by rw [d4] at e; cases e), fun e => (by rw [d5] at e; cases e)⟩
theorem A3.nb (h : A3 w d f D s W) (d6 : D 6 = false) : ∀ g, W.heap.size ≤ g → NB D s g := by
  intro g hg h5 e
  obtain ⟨k, h1, -, h3, -⟩ := h.b0 h5
  rw [h1] at e
  injection e with e
  injection e with e
  injection e with e
  have := (h3 d6).lt
  omega
theorem A3.ext (h : A3 w d f D s W) (hb : Below W.heap.size W W') : A3 w d f D s W' :=
  ⟨h.ab.ext hb, fun e e' => (h.c29 e e').ext hb, fun e e' => (h.c31 e e').ext hb, fun e e' => (h.c32 e e').ext hb, fun e => by
    obtain ⟨g, h1, h2, h3, h4⟩ := h.b0 e
    exact ⟨g, h1, h2, fun q => (h3 q).ext hb, fun q => (h4 q).ext hb⟩⟩
theorem A3.op1 (h : A3 w d f D s W) (hb : Below W.heap.size W W') {x : Value} (hx : CopyS x d.v (NB D s) W') : A3 w d f (updD D 1) (updS s (some 29) x) W' :=
  { h.ext hb with c29 := fun _ _ => hx }
theorem A3.op4 (h : A3 w d f D s W) (hb : Below W.heap.size W W') {x : Value} (hx : CopyS x (replyW d.v f.v) (NB D s) W') : A3 w d f (updD D 4) (updS s (some 32) x) W' :=
  { h.ext hb with c32 := fun _ _ => hx }
theorem A3.op5 (h : A3 w d f D s W) (d6 : D 6 = false) : A3 w d f (updD D 5) (updS s (some 7) (.pointer (some ⟨W.heap.size, 0, none⟩))) (W.alloc (.cells #[.int .i64 0, .bool false, .int .i64 0, .string { data := #[] }, .slice none 0 0, .slice none 0 0] 36)) := by
  have hb := below_a1 W (.cells #[.int .i64 0, .bool false, .int .i64 0, .string { data := #[] }, .slice none 0 0, .slice none 0 0] 36)
  have hn : ∀ g, NB D s g → g < W.heap.size → NB (updD D 5) (updS s (some 7) (.pointer (some ⟨W.heap.size, 0, none⟩))) g := by
    intro g _ hg _ e
    rw [updS_self] at e
    injection e with e
    injection e with e
    injection e with e
    omega
  exact ⟨h.ab.ext hb, fun e e' => ((h.c29 e e').mono hn).ext hb, fun e e' => ((h.c31 e e').mono hn).ext hb, fun e e' => ((h.c32 e e').mono hn).ext hb, fun _ => ⟨W.heap.size, rfl, h.ab.sz, fun _ => Blk.new rfl, fun e => (by rw [show updD D 5 6 = D 6 from rfl, d6] at e; cases e)⟩⟩
theorem A3.ends (h : A3 w d f D s W) (d5 : D 5 = true) (d6 : D 6 = true) : AB w W d f ∧ ∃ g, s 7 = .pointer (some ⟨g, 0, none⟩) ∧ BoxA w W g (replyW d.v f.v) := by
  obtain ⟨g, h1, -, -, h4⟩ := h.b0 d5
  exact ⟨h.ab, g, h1, h4 d6⟩
end
theorem A3.op6 {w : World} {d f : VD} {D : Nat → Bool} {s : Nat → Value} {W : World} (h : A3 w d f D s W) {g : Nat} {y : VD} (h7 : s 7 = .pointer (some ⟨g, 0, none⟩)) (hg : w.heap.size + 2 ≤ g) (hB : Blk W g #[.int .i64 0, .bool false, .int .i64 0, .string { data := #[] }, .slice none 0 0, .slice none 0 0] 36) (hv : y.v = replyW d.v f.v) (ha : ValAt W (NB D s) y) (d5 : D 5 = true) :
    A3 w d f (updD D 6) (updS s none undef) (put6 W g 0 (.int .i64 y.sort) (.bool y.on) (.int .i64 y.n) (.string ⟨y.text.toArray⟩) (.slice y.a y.list.length y.c) (.slice y.ka y.keys.length y.kc)) := by
  have hb : Below (w.heap.size + 2) W (put6 W g 0 (.int .i64 y.sort) (.bool y.on) (.int .i64 y.n) (.string ⟨y.text.toArray⟩) (.slice y.a y.list.length y.c) (.slice y.ka y.keys.length y.kc)) := put6_below (Below.refl _ _) hg
  refine ⟨h.ab.keep hb (Nat.le_refl _), fun _ e => (by rw [updD_self] at e; cases e), fun _ e => (by rw [updD_self] at e; cases e), fun _ e => (by rw [updD_self] at e; cases e), fun _ => ⟨g, h7, hg, fun e => (by rw [updD_self] at e; cases e), fun _ => ⟨hg, y, hv, store6 hB, ?_⟩⟩⟩
  have hne : ∀ k, NB D s k → k ≠ g := fun k hk e => hk d5 (by rw [h7, e])
  exact (ha.congr fun k hk _ => put6_other (hne k hk)).mono fun k hk _ => hne k hk
/-- a value in its box -/
structure BX (W : World) (g : Nat) (x : VD) (v : V) : Prop where
  blk : Blk W g #[.int .i64 x.sort, .bool x.on, .int .i64 x.n, .string ⟨x.text.toArray⟩, .slice x.a x.list.length x.c, .slice x.ka x.keys.length x.kc] 36
  val : ValAt W (fun _ => True) x
  v : x.v = v
theorem BX.ext {W W' : World} {g : Nat} {x : VD} {v : V} (h : BX W g x v) (hb : Below W.heap.size W W') : BX W' g x v := ⟨h.blk.ext hb, h.val.ext hb, h.v⟩
theorem BX.new {W : World} {x : VD} {v : V} (hb : ValAt W (fun _ => True) x) (hv : x.v = v) : BX (W.alloc (.cells #[.int .i64 x.sort, .bool x.on, .int .i64 x.n, .string ⟨x.text.toArray⟩, .slice x.a x.list.length x.c, .slice x.ka x.keys.length x.kc] 36)) W.heap.size x v := ⟨Blk.new rfl, hb.ext (below_a1 _ _), hv⟩
end Go.Proofs.YthnbeebilomchaaGreatDoor

namespace Go.Proofs.YthnbeebilomchaaGreatDoor
open Go Go.RowKit

/-- a copy without its changes -/
def CopC (c c' : CD) : Prop := c'.kind = c.kind ∧ c'.id.v = c.id.v ∧ c'.name = c.name ∧ c'.version = c.version ∧ c'.text = c.text ∧ c'.pl = c.pl ∧ c'.pu = c.pu ∧ c'.other.v = c.other.v
structure CpS (TA T TE : TypeId) (w : World) (c : CD) (M g : Nat) (c' : CD) (W : World) : Prop where
  ab : Blk W w.heap.size (cdC c) TA
  rb : Blk W (w.heap.size + 1) (cdC zeroCD) T
  ob : Blk W g (cdC c') T
  lo : w.heap.size + 2 ≤ g
  gm : g < M
  ms : M ≤ W.heap.size
  id : ValAt W (fun k => (k ≠ w.heap.size + 1 ∧ k ≠ g) ∧ k < M) c'.id
  other : ValAt W (fun k => (k ≠ w.heap.size + 1 ∧ k ≠ g) ∧ k < M) c'.other
  own : Own W M TE 6 c'.a c'.changes.length c'.c (c'.changes.flatMap E.cells)
  below : Below w.heap.size w W
/-- not the answer's box, nor the new call's -/
def NC (w : World) (D : Nat → Bool) (s : Nat → Value) (k : Nat) : Prop := k ≠ w.heap.size + 1 ∧ (D 17 = true → s 3 ≠ .pointer (some ⟨k, 0, none⟩))
structure O1 (TA T : TypeId) (w : World) (c : CD) (D : Nat → Bool) (s : Nat → Value) (W : World) : Prop where
  ab : Blk W w.heap.size (cdC c) TA
  rb : Blk W (w.heap.size + 1) (cdC zeroCD) T
  va : ValAt W (fun k => k < w.heap.size) c.id
  vo : ValAt W (fun k => k < w.heap.size) c.other
  below : Below w.heap.size w W
  c10 : D 4 = true → D 18 = false → CopyS (s 10) c.id.v (NC w D s) W
  c21 : D 15 = true → D 18 = false → CopyS (s 21) c.other.v (NC w D s) W
  c22 : D 16 = true → D 18 = false → ∃ c', CopC c c' ∧ (c'.a = none ∧ c'.c = 0 ∧ c'.changes = []) ∧ s 22 = .agg (cdC c') ∧ ValAt W (NC w D s) c'.id ∧ ValAt W (NC w D s) c'.other
  b0 : D 17 = true → ∃ g, s 3 = .pointer (some ⟨g, 0, none⟩) ∧ w.heap.size + 2 ≤ g ∧ (D 18 = false → Blk W g (cdC zeroCD) T) ∧ (D 18 = true → ∃ c', CopC c c' ∧ (c'.a = none ∧ c'.c = 0 ∧ c'.changes = []) ∧ Blk W g (cdC c') T ∧ ValAt W (fun k => k ≠ w.heap.size + 1 ∧ k ≠ g) c'.id ∧ ValAt W (fun k => k ≠ w.heap.size + 1 ∧ k ≠ g) c'.other)
section
variable {TA T TE : TypeId} {w : World} {c : CD} {D : Nat → Bool} {s : Nat → Value} {W W' : World}
theorem CpS.ext {M g : Nat} {c' : CD} (h : CpS TA T TE w c M g c' W) (hb : Below W.heap.size W W') : CpS TA T TE w c M g c' W' :=
  ⟨h.ab.ext hb, h.rb.ext hb, h.ob.ext hb, h.lo, h.gm, Nat.le_trans h.ms hb.size, h.id.ext hb, h.other.ext hb, h.own.ext hb, h.below.trans (hb.mono h.below.size)⟩
theorem O1.start (h1 : Blk W w.heap.size (cdC c) TA) (h2 : Blk W (w.heap.size + 1) (cdC zeroCD) T) (h3 : ValAt W (fun k => k < w.heap.size) c.id) (h4 : ValAt W (fun k => k < w.heap.size) c.other) (h5 : Below w.heap.size w W) (d4 : D 4 = false) (d15 : D 15 = false) (d16 : D 16 = false) (d17 : D 17 = false) : O1 TA T w c D s W :=
  ⟨h1, h2, h3, h4, h5, fun e => (by rw [d4] at e; cases e), fun e => (by rw [d15] at e; cases e), fun e => (by rw [d16] at e; cases e), fun e => (by rw [d17] at e; cases e)⟩
theorem O1.sz (h : O1 TA T w c D s W) : w.heap.size + 2 ≤ W.heap.size := h.rb.lt
theorem ptr_inj {a b : Nat} (e : Value.pointer (some ⟨a, 0, none⟩) = .pointer (some ⟨b, 0, none⟩)) : a = b := by
  injection e with e
  injection e with e
  injection e with e
theorem O1.nb (h : O1 TA T w c D s W) (d : D 18 = false) {k : Nat} (hk : k < w.heap.size ∨ W.heap.size ≤ k) : NC w D s k := by
  have hz := h.sz
  refine ⟨by omega, fun h5 e => ?_⟩
  obtain ⟨g, h1, h2, h3, -⟩ := h.b0 h5
  rw [h1] at e
  have := ptr_inj e
  have := (h3 d).lt
  omega
theorem O1.ext (h : O1 TA T w c D s W) (hb : Below W.heap.size W W') : O1 TA T w c D s W' :=
  ⟨h.ab.ext hb, h.rb.ext hb, h.va.ext hb, h.vo.ext hb, h.below.trans (hb.mono h.below.size), fun e e' => (h.c10 e e').ext hb, fun e e' => (h.c21 e e').ext hb, fun e e' => by
    obtain ⟨c', h1, h2, h3, h4, h5⟩ := h.c22 e e'
    exact ⟨c', h1, h2, h3, h4.ext hb, h5.ext hb⟩, fun e => by
    obtain ⟨g, h1, h2, h3, h4⟩ := h.b0 e
    exact ⟨g, h1, h2, fun q => (h3 q).ext hb, fun q => by
      obtain ⟨c', q1, q2, q3, q4, q5⟩ := h4 q
      exact ⟨c', q1, q2, q3.ext hb, q4.ext hb, q5.ext hb⟩⟩⟩
theorem O1.op4 (h : O1 TA T w c D s W) (hb : Below W.heap.size W W') {x : Value} (hx : CopyS x c.id.v (NC w D s) W') : O1 TA T w c (updD D 4) (updS s (some 10) x) W' :=
  { h.ext hb with c10 := fun _ _ => hx }
theorem O1.op15 (h : O1 TA T w c D s W) (hb : Below W.heap.size W W') {x : Value} (hx : CopyS x c.other.v (NC w D s) W') : O1 TA T w c (updD D 15) (updS s (some 21) x) W' :=
  { h.ext hb with c21 := fun _ _ => hx }
theorem O1.op16 (h : O1 TA T w c D s W) {y z : VD} (hy : ValAt W (NC w D s) y) (hz : ValAt W (NC w D s) z) (ey : y.v = c.id.v) (ez : z.v = c.other.v) : O1 TA T w c (updD D 16) (updS s (some 22) (.agg (cdC ⟨c.kind, y, c.name, c.version, c.text, none, 0, [], c.pl, c.pu, z⟩))) W :=
  { h with c22 := fun _ _ => ⟨⟨c.kind, y, c.name, c.version, c.text, none, 0, [], c.pl, c.pu, z⟩, ⟨rfl, ey, rfl, rfl, rfl, rfl, rfl, ez⟩, ⟨rfl, rfl, rfl⟩, rfl, hy, hz⟩ }
theorem O1.op17 (h : O1 TA T w c D s W) (d18 : D 18 = false) : O1 TA T w c (updD D 17) (updS s (some 3) (.pointer (some ⟨W.heap.size, 0, none⟩))) (W.alloc (.cells (cdC zeroCD) T)) := by
  have hb := below_a1 W (.cells (cdC zeroCD) T)
  have hn : ∀ g, NC w D s g → g < W.heap.size → NC w (updD D 17) (updS s (some 3) (.pointer (some ⟨W.heap.size, 0, none⟩))) g := by
    intro g h1 hg
    refine ⟨h1.1, fun _ e => ?_⟩
    rw [updS_self] at e
    have := ptr_inj e
    omega
  exact ⟨h.ab.ext hb, h.rb.ext hb, h.va.ext hb, h.vo.ext hb, h.below.trans (hb.mono h.below.size), fun e e' => ((h.c10 e e').mono hn).ext hb, fun e e' => ((h.c21 e e').mono hn).ext hb, fun e e' => by
    obtain ⟨c', h1, h2, h3, h4, h5⟩ := h.c22 e e'
    exact ⟨c', h1, h2, h3, (h4.mono hn).ext hb, (h5.mono hn).ext hb⟩, fun _ => ⟨W.heap.size, rfl, h.sz, fun _ => Blk.new rfl, fun e => (by rw [show updD D 17 18 = D 18 from rfl, d18] at e; cases e)⟩⟩
theorem O1.op18 (h : O1 TA T w c D s W) {g : Nat} {c' : CD} (h7 : s 3 = .pointer (some ⟨g, 0, none⟩)) (hg : w.heap.size + 2 ≤ g) (hB : Blk W g (cdC zeroCD) T) (hc : CopC c c') (hz : c'.a = none ∧ c'.c = 0 ∧ c'.changes = []) (hi : ValAt W (NC w D s) c'.id) (ho : ValAt W (NC w D s) c'.other) (d17 : D 17 = true) :
    O1 TA T w c (updD D 18) (updS s none undef) (W.setRow g (cdC c')) := by
  have hb : Below (w.heap.size + 2) W (W.setRow g (cdC c')) := below_row (Below.refl _ _) hg _
  have hne : ∀ k, NC w D s k → k ≠ g := fun k hk e => hk.2 d17 (by rw [h7, e])
  have h1 := h.ab.below hb (by omega)
  have h2 := h.rb.below hb (by omega)
  have h3 := h.below.trans (hb.mono (by omega : w.heap.size ≤ w.heap.size + 2))
  have keep : ∀ {y : VD}, ValAt W (NC w D s) y → ValAt (W.setRow g (cdC c')) (fun k => k ≠ w.heap.size + 1 ∧ k ≠ g) y := fun hy => (hy.congr fun k hk _ => setRow_far (hne k hk)).mono fun k hk _ => ⟨hk.1, hne k hk⟩
  refine ⟨h1, h2, h.va.congr fun k hk _ => hb.block k (by omega), h.vo.congr fun k hk _ => hb.block k (by omega), h3, fun _ e => (by rw [updD_self] at e; cases e), fun _ e => (by rw [updD_self] at e; cases e), fun _ e => (by rw [updD_self] at e; cases e), fun _ => ⟨g, h7, hg, fun e => (by rw [updD_self] at e; cases e), fun _ => ⟨c', hc, hz, setRow_blk hB, keep hi, keep ho⟩⟩⟩
theorem O1.ends (TE : TypeId) (h : O1 TA T w c D s W) (d17 : D 17 = true) (d18 : D 18 = true) : ∃ g c', s 3 = .pointer (some ⟨g, 0, none⟩) ∧ CopC c c' ∧ c'.changes = [] ∧ CpS TA T TE w c W.heap.size g c' W := by
  obtain ⟨g, h1, h2, -, h4⟩ := h.b0 d17
  obtain ⟨c', q1, q2, q3, q4, q5⟩ := h4 d18
  refine ⟨g, c', h1, q1, q2.2.2, h.ab, h.rb, q3, h2, q3.lt, Nat.le_refl _, q4.mono fun k hk hl => ⟨hk, hl⟩, q5.mono fun k hk hl => ⟨hk, hl⟩, ?_, h.below⟩
  rw [q2.1, q2.2.1, q2.2.2]
  exact Own.nil _ _ _ _
/-- one change more -/
theorem CpS.app {M g : Nat} {c' : CD} (h : CpS TA T TE w c M g c' W) {e : E} {a' : Option Addr} {k : Nat} (ho : Own W' M TE 6 a' (c'.changes.length + 1) k (c'.changes.flatMap E.cells ++ e.cells)) (hg : W.grownBy W' (rowOf c'.a c'.c)) :
    CpS TA T TE w c M g { c' with changes := c'.changes ++ [e], a := a', c := k } (W'.setCell ⟨g, 10, none⟩ (.slice a' (c'.changes.length + 1) k)) := by
  have hlo := h.lo
  have hgm := h.gm
  have row : ∀ j, rowOf c'.a c'.c = some j → M ≤ j := fun j hj => h.own.rowBase (Nat.le_refl _) j hj
  have ne : ∀ b, b < M → some b ≠ rowOf c'.a c'.c := fun b hb e => by have := row b e.symm; omega
  have q0 : w.heap.size ≠ g := by omega
  have q1 : w.heap.size + 1 ≠ g := by omega
  have keep : ∀ {y : VD}, ValAt W (fun k => (k ≠ w.heap.size + 1 ∧ k ≠ g) ∧ k < M) y → ValAt (W'.setCell ⟨g, 10, none⟩ (.slice a' (c'.changes.length + 1) k)) (fun k => (k ≠ w.heap.size + 1 ∧ k ≠ g) ∧ k < M) y :=
    fun hy => hy.congr fun b hb hl => (Below.heap_setCell W' ⟨g, 10, none⟩ _ b hb.1.2).trans (hg.block b hl (ne b hb.2))
  refine ⟨(h.ab.grown hg (ne _ (by omega))).other (p := ⟨g, 10, none⟩) q0 _, (h.rb.grown hg (ne _ (by omega))).other (p := ⟨g, 10, none⟩) q1 _, ?_, hlo, hgm, by have := hg.size; have := h.ms; simp; omega, keep h.id, keep h.other, ?_, ?_⟩
  · have := (h.ob.grown hg (ne _ hgm)).set 10 (.slice a' (c'.changes.length + 1) k)
    have e1 : (cdC c').setIfInBounds 10 (.slice a' (c'.changes.length + 1) k) = cdC { c' with changes := c'.changes ++ [e], a := a', c := k } := by
      simp [cdC]
    rw [e1] at this
    exact this
  · simp only [List.length_append, List.length_singleton, List.flatMap_append, List.flatMap_cons, List.flatMap_nil, List.append_nil]
    exact ho.setCell_other (p := ⟨g, 10, none⟩) (fun e => by have := ho.base e; simp at this; omega) _
  · exact (h.below.grown hg h.below.size (fun j hj => by have := row j hj; omega)).setCell (p := ⟨g, 10, none⟩) (by show w.heap.size ≤ g; omega) _
end
/-- a call that is copied -/
def CalE (w : World) (c : CD) (e : Ending) (w' : World) : Prop := ∃ c' : CD, e = .returned (.agg (cdC c')) ∧ CopC c c' ∧ c'.changes = c.changes ∧ CallAt w' c' ∧ Below w.heap.size w w'
theorem CpS.fin {TA T TE : TypeId} {w : World} {c : CD} {W : World} {M g : Nat} {c' : CD} (h : CpS TA T TE w c M g c' W) (hc : CopC c c') (hl : c'.changes = c.changes) : CalE w c (.returned (.agg (cdC c'))) (W.setRow (w.heap.size + 1) (cdC c')) := by
  have hlo := h.lo
  have hgm := h.gm
  have keep : ∀ {y : VD}, ValAt W (fun k => (k ≠ w.heap.size + 1 ∧ k ≠ g) ∧ k < M) y → ValAt (W.setRow (w.heap.size + 1) (cdC c')) (fun _ => True) y := fun hy => (hy.congr fun k hk _ => setRow_far hk.1.1).mono fun _ _ _ => trivial
  refine ⟨c', rfl, hc, hl, ⟨keep h.id, keep h.other, h.own.row.congr fun b _ hb _ => setRow_far (by have := h.own.base hb; omega)⟩, below_row h.below (by omega) _⟩
theorem copC_step {c c' : CD} (h : CopC c c') (l : List E) (a : Option Addr) (k : Nat) : CopC c { c' with changes := l, a := a, c := k } := h
theorem copC_k {c c' : CD} (h : CopC c c') (hl : c'.changes = c.changes) : c'.k = c.k := by
  obtain ⟨h1, h2, h3, h4, h5, h6, h7, h8⟩ := h
  unfold CD.k
  rw [h1, h2, h3, h4, h5, h6, h7, h8, hl]
theorem cd_rows {w : World} {c : CD} (h : CallAt w c) : ValAt w (fun k => k < w.heap.size) c.id ∧ ValAt w (fun k => k < w.heap.size) c.other := ⟨h.id.mono fun _ _ h => h, h.other.mono fun _ _ h => h⟩
theorem docCall_size : (Tryz.prog.info? 31).map (·.size) = some 19 := by kernel_rfl
theorem docCall_under : ∃ fs, Tryz.prog.underlying 31 = some (.struct fs) := by
  have h : (match Tryz.prog.underlying 31 with | some (.struct _) => true | _ => false) = true := by kernel_rfl
  cases hq : Tryz.prog.underlying 31 with
  | none => rw [hq] at h; cases h
  | some d => cases d <;> (rw [hq] at h; first | (cases h; done) | exact ⟨_, rfl⟩)
theorem load_doc {ops : Array Oper} {rest : List Oper} {o : Oper} {a : Act} {w : World} {Q : Exit → Act → World → Prop} (hgd : o.guard = none) (x : Operand) (ho : o.op = .load 31 x) (g : Nat) (hx : a.eval x = .pointer (some ⟨g, 0, none⟩)) (c : CD) (hg : Blk w g (cdC c) 31)
    (h : wpList Tryz.prog ops Q rest (a.put o.dst (.agg (cdC c))) w) : wpList Tryz.prog ops Q (o :: rest) a w := by
  obtain ⟨fs, h1⟩ := docCall_under
  exact wpList_load_row hgd _ x ho g hx _ _ _ _ hg h1 rfl docCall_size h
theorem store_doc {ops : Array Oper} {rest : List Oper} {o : Oper} {a : Act} {w : World} {Q : Exit → Act → World → Prop} (hgd : o.guard = none) (x y : Operand) (ho : o.op = .store 31 x y) (g : Nat) (c c' : CD) (hx : a.eval x = .pointer (some ⟨g, 0, none⟩)) (hy : a.eval y = .agg (cdC c)) (hg : Blk w g (cdC c') 31)
    (h : wpList Tryz.prog ops Q rest (a.put o.dst undef) (w.setRow g (cdC c))) : wpList Tryz.prog ops Q (o :: rest) a w :=
  wpList_store_row hgd _ x y ho g _ hx hy _ _ hg docCall_size rfl (cdC_one c) h
theorem Tryz.infoDocEdit : (Tryz.prog.info? 71).map (fun i => (i.zero, i.size, i.bytes)) = some (some (.agg #[.int .i64 0, .int .i64 0, .int .i64 0, .int .i64 0, .string ByteArray.empty, .bool false]), 6, 56) := by kernel_rfl
theorem of04_end {W : World} {tm : Array Value} {R : Ending → World → Prop} {g : Nat} {c : CD} (h2 : tm.getD 2 undef = .pointer (some ⟨g, 0, none⟩)) (hB : Blk W g (cdC c) 43)
    (hR : R (.returned (.agg (cdC c))) W) : bodyPost Tryz.prog Tryz.f9 R .ret { tmps := tm, defers := [] } W := by
  obtain ⟨fs, h1⟩ := call_under
  exact bodyPost_ret (v := .agg (cdC c)) (results_cell_row Tryz.results9 tm W g _ _ _ _ h2 hB h1 rfl call_size) rfl hR
theorem ofB_any {w W : World} {d : VD} (hs : w.heap.size ≤ W.heap.size) (h : ValAt W (fun k => k < w.heap.size) d) (hz : sizeV d.v ≤ 1048576) : Calls Tryz.prog 15 #[.agg #[.int .i64 d.sort, .bool d.on, .int .i64 d.n, .string ⟨d.text.toArray⟩, .slice d.a d.list.length d.c, .slice d.ka d.keys.length d.kc]] W (OfE w.heap.size W d.v) := by
  have h1 := of_any d w.heap.size W hs h hz
  rwa [VD.val6] at h1
set_option maxHeartbeats 8000000 in
set_option maxRecDepth 20000 in
theorem of04_any (c : CD) (w : World) (hc : CallAt w c) (hs1 : sizeV c.id.v ≤ 1048576) (hs2 : sizeV c.other.v ≤ 1048576) (hn : c.changes.length ≤ 1048576) : Calls Tryz.prog 9 #[.agg (cdC c)] w (CalE w c) := by
  obtain ⟨W1, hW1⟩ : ∃ q, q = (w.alloc (.cells (cdC c) 31)).alloc (.cells #[.int .i64 0, .int .i64 0, .bool false, .int .i64 0, .string { data := #[] }, .slice none 0 0, .slice none 0 0, .string { data := #[] }, .int .i64 0, .string { data := #[] }, .slice none 0 0, .int .i64 0, .int .i64 0, .int .i64 0, .bool false, .int .i64 0, .string { data := #[] }, .slice none 0 0, .slice none 0 0] 43) := ⟨_, rfl⟩
  have hb : Below w.heap.size w W1 := by rw [hW1]; exact (below_a1 w _).alloc (by simp) _
  have HAB : Hid (Blk W1 w.heap.size (cdC c) 31) := Lib.hid (by rw [hW1]; exact (Blk.new rfl).alloc _)
  have HRB : Hid (Blk W1 (w.heap.size + 1) (cdC zeroCD) 43) := Lib.hid (by rw [hW1]; exact Blk.new (by simp))
  have HVA : Hid (ValAt W1 (fun k => k < w.heap.size) c.id ∧ ValAt W1 (fun k => k < w.heap.size) c.other) := Lib.hid ⟨(cd_rows hc).1.ext hb, (cd_rows hc).2.ext hb⟩
  have HC : Hid (CallAt w c) := Lib.hid hc
  have HB1 : Hid (Below w.heap.size w W1) := Lib.hid hb
  have HS1 := Lib.hid hs1
  have HS2 := Lib.hid hs2
  have HN := Lib.hid hn
  clear hb hc hs1 hs2 hn
  go_enter Tryz.func9, Tryz.ntmps9
  go_upto_region 1 with (fail)
  rw [← hW1]
  clear hW1
  refine wp_region_held_drew (S := (fun w' => Blk w' w.heap.size (cdC c) 31)) (by kernel_rfl) ?_ (fun hHeld => ?_)
  · exact HAB.out
  refine wpAnyH_take (i := 0) (oi := ⟨some 6, _, _, _, _, _⟩) (v := ?_) rfl (by kernel_rfl) (by kernel_rfl) (by kernel_rfl) (fun _ _ _ h => h) (Or.inl ⟨by rfl, ?_⟩) (by assumption) ?_; rotate_left; focus (intro w hSw; (try dsimp only at hSw); first | (go_simp; done) | (go_simp; with_reducible rfl))
  try simp only [Act.put]
  try simp only [List.setIfInBounds_toArray]
  try simp only [List.set_cons_succ, List.set_cons_zero]
  refine wpAnyH_take (i := 1) (oi := ⟨some 7, _, _, _, _, _⟩) (v := ?_) rfl (by kernel_rfl) (by kernel_rfl) (by kernel_rfl) (fun _ _ _ h => h) (Or.inl ⟨by rfl, ?_⟩) (by assumption) ?_; rotate_left; focus (intro w hSw; (try dsimp only at hSw); have b0 := Blk.cell hSw 0; unfold cdC at b0; simp only [List.getElem?_toArray, List.getElem?_cons_zero] at b0; first | (go_simp; done) | (go_simp; with_reducible rfl))
  try simp only [Act.put]
  try simp only [List.setIfInBounds_toArray]
  try simp only [List.set_cons_succ, List.set_cons_zero]
  refine wpAnyH_take (i := 2) (oi := ⟨some 8, _, _, _, _, _⟩) (v := ?_) rfl (by kernel_rfl) (by kernel_rfl) (by kernel_rfl) (fun _ _ _ h => h) (Or.inl ⟨by rfl, ?_⟩) (by assumption) ?_; rotate_left; focus (intro w hSw; (try dsimp only at hSw); first | (go_simp; done) | (go_simp; with_reducible rfl))
  try simp only [Act.put]
  try simp only [List.setIfInBounds_toArray]
  try simp only [List.set_cons_succ, List.set_cons_zero]
  refine wpAnyH_take (i := 3) (oi := ⟨some 9, _, _, _, _, _⟩) (v := ?_) rfl (by kernel_rfl) (by kernel_rfl) (by kernel_rfl) (fun _ _ _ h => h) (Or.inl ⟨by rfl, ?_⟩) (by assumption) ?_; rotate_left; focus (intro w hSw; (try dsimp only at hSw); have b1 := Blk.cell hSw 1; have b2 := Blk.cell hSw 2; have b3 := Blk.cell hSw 3; have b4 := Blk.cell hSw 4; have b5 := Blk.cell hSw 5; have b6 := Blk.cell hSw 6; unfold cdC at b1 b2 b3 b4 b5 b6; simp only [List.getElem?_toArray, List.getElem?_cons_zero, List.getElem?_cons_succ] at b1 b2 b3 b4 b5 b6; first | (go_simp; done) | (go_simp; with_reducible rfl))
  try simp only [Act.put]
  try simp only [List.setIfInBounds_toArray]
  try simp only [List.set_cons_succ, List.set_cons_zero]
  refine wpAnyH_take (i := 5) (oi := ⟨some 11, _, _, _, _, _⟩) (v := ?_) rfl (by kernel_rfl) (by kernel_rfl) (by kernel_rfl) (fun _ _ _ h => h) (Or.inl ⟨by rfl, ?_⟩) (by assumption) ?_; rotate_left; focus (intro w hSw; (try dsimp only at hSw); first | (go_simp; done) | (go_simp; with_reducible rfl))
  try simp only [Act.put]
  try simp only [List.setIfInBounds_toArray]
  try simp only [List.set_cons_succ, List.set_cons_zero]
  refine wpAnyH_take (i := 6) (oi := ⟨some 12, _, _, _, _, _⟩) (v := ?_) rfl (by kernel_rfl) (by kernel_rfl) (by kernel_rfl) (fun _ _ _ h => h) (Or.inl ⟨by rfl, ?_⟩) (by assumption) ?_; rotate_left; focus (intro w hSw; (try dsimp only at hSw); have b7 := Blk.cell hSw 7; unfold cdC at b7; simp only [List.getElem?_toArray, List.getElem?_cons_zero, List.getElem?_cons_succ] at b7; first | (go_simp; done) | (go_simp; with_reducible rfl))
  try simp only [Act.put]
  try simp only [List.setIfInBounds_toArray]
  try simp only [List.set_cons_succ, List.set_cons_zero]
  refine wpAnyH_take (i := 7) (oi := ⟨some 13, _, _, _, _, _⟩) (v := ?_) rfl (by kernel_rfl) (by kernel_rfl) (by kernel_rfl) (fun _ _ _ h => h) (Or.inl ⟨by rfl, ?_⟩) (by assumption) ?_; rotate_left; focus (intro w hSw; (try dsimp only at hSw); first | (go_simp; done) | (go_simp; with_reducible rfl))
  try simp only [Act.put]
  try simp only [List.setIfInBounds_toArray]
  try simp only [List.set_cons_succ, List.set_cons_zero]
  refine wpAnyH_take (i := 8) (oi := ⟨some 14, _, _, _, _, _⟩) (v := ?_) rfl (by kernel_rfl) (by kernel_rfl) (by kernel_rfl) (fun _ _ _ h => h) (Or.inl ⟨by rfl, ?_⟩) (by assumption) ?_; rotate_left; focus (intro w hSw; (try dsimp only at hSw); have b8 := Blk.cell hSw 8; unfold cdC at b8; simp only [List.getElem?_toArray, List.getElem?_cons_zero, List.getElem?_cons_succ] at b8; first | (go_simp; done) | (go_simp; with_reducible rfl))
  try simp only [Act.put]
  try simp only [List.setIfInBounds_toArray]
  try simp only [List.set_cons_succ, List.set_cons_zero]
  refine wpAnyH_take (i := 9) (oi := ⟨some 15, _, _, _, _, _⟩) (v := ?_) rfl (by kernel_rfl) (by kernel_rfl) (by kernel_rfl) (fun _ _ _ h => h) (Or.inl ⟨by rfl, ?_⟩) (by assumption) ?_; rotate_left; focus (intro w hSw; (try dsimp only at hSw); first | (go_simp; done) | (go_simp; with_reducible rfl))
  try simp only [Act.put]
  try simp only [List.setIfInBounds_toArray]
  try simp only [List.set_cons_succ, List.set_cons_zero]
  refine wpAnyH_take (i := 10) (oi := ⟨some 16, _, _, _, _, _⟩) (v := ?_) rfl (by kernel_rfl) (by kernel_rfl) (by kernel_rfl) (fun _ _ _ h => h) (Or.inl ⟨by rfl, ?_⟩) (by assumption) ?_; rotate_left; focus (intro w hSw; (try dsimp only at hSw); have b9 := Blk.cell hSw 9; unfold cdC at b9; simp only [List.getElem?_toArray, List.getElem?_cons_zero, List.getElem?_cons_succ] at b9; first | (go_simp; done) | (go_simp; with_reducible rfl))
  try simp only [Act.put]
  try simp only [List.setIfInBounds_toArray]
  try simp only [List.set_cons_succ, List.set_cons_zero]
  refine wpAnyH_take (i := 11) (oi := ⟨some 17, _, _, _, _, _⟩) (v := ?_) rfl (by kernel_rfl) (by kernel_rfl) (by kernel_rfl) (fun _ _ _ h => h) (Or.inl ⟨by rfl, ?_⟩) (by assumption) ?_; rotate_left; focus (intro w hSw; (try dsimp only at hSw); first | (go_simp; done) | (go_simp; with_reducible rfl))
  try simp only [Act.put]
  try simp only [List.setIfInBounds_toArray]
  try simp only [List.set_cons_succ, List.set_cons_zero]
  refine wpAnyH_take (i := 12) (oi := ⟨some 18, _, _, _, _, _⟩) (v := ?_) rfl (by kernel_rfl) (by kernel_rfl) (by kernel_rfl) (fun _ _ _ h => h) (Or.inl ⟨by rfl, ?_⟩) (by assumption) ?_; rotate_left; focus (intro w hSw; (try dsimp only at hSw); have b11 := Blk.cell hSw 11; have b12 := Blk.cell hSw 12; unfold cdC at b11 b12; simp only [List.getElem?_toArray, List.getElem?_cons_zero, List.getElem?_cons_succ] at b11 b12; first | (go_simp; done) | (go_simp; with_reducible rfl))
  try simp only [Act.put]
  try simp only [List.setIfInBounds_toArray]
  try simp only [List.set_cons_succ, List.set_cons_zero]
  refine wpAnyH_take (i := 13) (oi := ⟨some 19, _, _, _, _, _⟩) (v := ?_) rfl (by kernel_rfl) (by kernel_rfl) (by kernel_rfl) (fun _ _ _ h => h) (Or.inl ⟨by rfl, ?_⟩) (by assumption) ?_; rotate_left; focus (intro w hSw; (try dsimp only at hSw); first | (go_simp; done) | (go_simp; with_reducible rfl))
  try simp only [Act.put]
  try simp only [List.setIfInBounds_toArray]
  try simp only [List.set_cons_succ, List.set_cons_zero]
  refine wpAnyH_take (i := 14) (oi := ⟨some 20, _, _, _, _, _⟩) (v := ?_) rfl (by kernel_rfl) (by kernel_rfl) (by kernel_rfl) (fun _ _ _ h => h) (Or.inl ⟨by rfl, ?_⟩) (by assumption) ?_; rotate_left; focus (intro w hSw; (try dsimp only at hSw); have b13 := Blk.cell hSw 13; have b14 := Blk.cell hSw 14; have b15 := Blk.cell hSw 15; have b16 := Blk.cell hSw 16; have b17 := Blk.cell hSw 17; have b18 := Blk.cell hSw 18; unfold cdC at b13 b14 b15 b16 b17 b18; simp only [List.getElem?_toArray, List.getElem?_cons_zero, List.getElem?_cons_succ] at b13 b14 b15 b16 b17 b18; first | (go_simp; done) | (go_simp; with_reducible rfl))
  try simp only [Act.put]
  try simp only [List.setIfInBounds_toArray]
  try simp only [List.set_cons_succ, List.set_cons_zero]
  refine wpAnyH_invF [10, 21, 22, 3] [0, 1, 2, 3, 5, 6, 7, 8, 9, 10, 11, 12, 13, 14] (O1 31 43 w c) (by kernel_rfl) (by rfl) (by kernel_rfl) (by kernel_rfl) (Nat.le_of_ble_eq_true (by kernel_rfl)) ?_ ?_ ?_ ?_
  · intro D s W hJ
    exact hJ.ab
  · intro s
    exact O1.start HAB.out HRB.out (HVA.out.1.ext (Below.refl _ _).drew) (HVA.out.2.ext (Below.refl _ _).drew) HB1.out.drew rfl rfl rfl rfl
  · refine InvAllF.skip (by kernel_rfl) ?_
    refine InvAllF.skip (by kernel_rfl) ?_
    refine InvAllF.skip (by kernel_rfl) ?_
    refine InvAllF.skip (by kernel_rfl) ?_
    refine InvAllF.cons (o := ⟨some 10, _, _, _, _, _⟩) (by kernel_rfl) (fun D s W hD hdep hno hJ K hK => ?_) ?_
    · have n15 : D 15 = false := hno 15 (by kernel_rfl)
      have n16 : D 16 = false := hno 16 (by kernel_rfl)
      have n18 : D 18 = false := hno 18 (by kernel_rfl)
      clear hdep hno
      simp only [setAll, List.foldl_cons, List.foldl_nil, Act.put, List.setIfInBounds_toArray, List.set_cons_succ, List.set_cons_zero]
      have h1 := ofB_any (w := w) (W := W) (by have := hJ.sz; omega) hJ.va HS1.out
      have H1 := Lib.hid h1
      clear h1
      have HJ := Lib.hid hJ
      clear hJ
      go_simp
      refine H1.out.mono ?_
      rintro e w2 ⟨y, rfl, hyv, hya, hb⟩
      clear H1
      refine hK.out _ _ _ ?_ (HJ.out.op4 hb ⟨y, rfl, hyv, hya.mono fun k hk _ => HJ.out.nb n18 hk⟩)
      simp only [setAll, List.foldl_cons, List.foldl_nil, Act.put, List.setIfInBounds_toArray, List.set_cons_succ, List.set_cons_zero]
    refine InvAllF.skip (by kernel_rfl) ?_
    refine InvAllF.skip (by kernel_rfl) ?_
    refine InvAllF.skip (by kernel_rfl) ?_
    refine InvAllF.skip (by kernel_rfl) ?_
    refine InvAllF.skip (by kernel_rfl) ?_
    refine InvAllF.skip (by kernel_rfl) ?_
    refine InvAllF.skip (by kernel_rfl) ?_
    refine InvAllF.skip (by kernel_rfl) ?_
    refine InvAllF.skip (by kernel_rfl) ?_
    refine InvAllF.skip (by kernel_rfl) ?_
    refine InvAllF.cons (o := ⟨some 21, _, _, _, _, _⟩) (by kernel_rfl) (fun D s W hD hdep hno hJ K hK => ?_) ?_
    · have e4 : D 4 = true := hdep 4 (by kernel_rfl)
      have n16 : D 16 = false := hno 16 (by kernel_rfl)
      have n18 : D 18 = false := hno 18 (by kernel_rfl)
      clear hdep hno
      simp only [setAll, List.foldl_cons, List.foldl_nil, Act.put, List.setIfInBounds_toArray, List.set_cons_succ, List.set_cons_zero]
      have h1 := ofB_any (w := w) (W := W) (by have := hJ.sz; omega) hJ.vo HS2.out
      have H1 := Lib.hid h1
      clear h1
      have HJ := Lib.hid hJ
      clear hJ
      go_simp
      refine H1.out.mono ?_
      rintro e w2 ⟨y, rfl, hyv, hya, hb⟩
      clear H1
      refine hK.out _ _ _ ?_ (HJ.out.op15 hb ⟨y, rfl, hyv, hya.mono fun k hk _ => HJ.out.nb n18 hk⟩)
      simp only [setAll, List.foldl_cons, List.foldl_nil, Act.put, List.setIfInBounds_toArray, List.set_cons_succ, List.set_cons_zero]
    refine InvAllF.cons (o := ⟨some 22, _, _, _, _, _⟩) (by kernel_rfl) (fun D s W hD hdep hno hJ K hK => ?_) ?_
    · have e4 : D 4 = true := hdep 4 (by kernel_rfl)
      have e15 : D 15 = true := hdep 15 (by kernel_rfl)
      have n18 : D 18 = false := hno 18 (by kernel_rfl)
      clear hdep hno
      simp only [setAll, List.foldl_cons, List.foldl_nil, Act.put, List.setIfInBounds_toArray, List.set_cons_succ, List.set_cons_zero]
      obtain ⟨y1, q10, qv1, qa1⟩ := hJ.c10 e4 n18
      obtain ⟨y2, q21, qv2, qa2⟩ := hJ.c21 e15 n18
      have HQ1 := Lib.hid q10
      have HQ2 := Lib.hid q21
      have HV := Lib.hid (And.intro (And.intro qv1 qa1) (And.intro qv2 qa2))
      clear q10 q21 qv1 qa1 qv2 qa2
      have HJ := Lib.hid hJ
      clear hJ
      simp only [HQ1.out, HQ2.out]
      go_simp
      refine hK.out _ _ _ ?_ (HJ.out.op16 HV.out.1.2 HV.out.2.2 HV.out.1.1 HV.out.2.1)
      simp only [HQ1.out, HQ2.out, setAll, List.foldl_cons, List.foldl_nil, Act.put, List.setIfInBounds_toArray, List.set_cons_succ, List.set_cons_zero]
      rfl
    refine InvAllF.cons (o := ⟨some 3, _, _, _, _, _⟩) (by kernel_rfl) (fun D s W hD hdep hno hJ K hK => ?_) ?_
    · have n18 : D 18 = false := hno 18 (by kernel_rfl)
      clear hdep hno
      simp only [setAll, List.foldl_cons, List.foldl_nil, Act.put, List.setIfInBounds_toArray, List.set_cons_succ, List.set_cons_zero]
      have HJ := Lib.hid hJ
      clear hJ
      go_simp
      refine hK.out _ _ _ ?_ (HJ.out.op17 n18)
      simp only [setAll, List.foldl_cons, List.foldl_nil, Act.put, List.setIfInBounds_toArray, List.set_cons_succ, List.set_cons_zero]
    refine InvAllF.cons (o := ⟨none, _, _, _, _, _⟩) (by kernel_rfl) (fun D s W hD hdep hno hJ K hK => ?_) ?_
    · have e4 : D 4 = true := hdep 4 (by kernel_rfl)
      have e15 : D 15 = true := hdep 15 (by kernel_rfl)
      have e16 : D 16 = true := hdep 16 (by kernel_rfl)
      have e17 : D 17 = true := hdep 17 (by kernel_rfl)
      clear hdep hno
      simp only [setAll, List.foldl_cons, List.foldl_nil, Act.put, List.setIfInBounds_toArray, List.set_cons_succ, List.set_cons_zero]
      obtain ⟨c', qc, qz, q22, qi, qo⟩ := hJ.c22 e16 hD
      obtain ⟨g, q3, hg, hB, -⟩ := hJ.b0 e17
      have hB := hB hD
      have HQ := Lib.hid q22
      have HQ3 := Lib.hid q3
      have HV := Lib.hid (And.intro (And.intro qc qz) (And.intro qi qo))
      have HBK := Lib.hid hB
      clear q22 qc qz qi qo q3 hB
      have HJ := Lib.hid hJ
      clear hJ
      simp only [HQ.out, HQ3.out]
      rw [if_pos (by simp [Region.wanted])]
      refine wp_store_row 43 _ _ rfl g (cdC c') rfl rfl _ _ HBK.out call_size rfl (cdC_one c') ?_
      refine hK.out _ undef _ ?_ (HJ.out.op18 HQ3.out hg HBK.out HV.out.1.1 HV.out.1.2 HV.out.2.1 HV.out.2.2 e17)
      simp only [HQ.out, HQ3.out, setAll, List.foldl_cons, List.foldl_nil, Act.put, List.setIfInBounds_toArray, List.set_cons_succ, List.set_cons_zero]
    exact InvAllF.nil
  · intro D s W hD hJ
    obtain ⟨g, c', q3, hcc, hcz, hcp⟩ := hJ.ends 82 (hD 17 (by decide)) (hD 18 (by decide))
    obtain ⟨M, hM⟩ : ∃ M, M = W.heap.size := ⟨_, rfl⟩
    rw [← hM] at hcp
    have HL0 := Lib.hid hcp
    have HCC := Lib.hid hcc
    have HCZ := Lib.hid hcz
    clear hJ hD hcc hcz hcp hM HAB HRB HVA HB1
    simp only [setAll, List.foldl_cons, List.foldl_nil, Act.put, List.setIfInBounds_toArray, List.set_cons_succ, List.set_cons_zero]
    rw [q3]
    clear q3
    generalize s 10 = u10
    generalize s 21 = u21
    generalize s 22 = u22
    clear s D
    have hn := HN.out
    obtain ⟨nc, hnc⟩ : ∃ q, q = c.changes.length := ⟨_, rfl⟩
    have HNC := Lib.hid hnc
    rw [← hnc] at hn
    clear hnc
    go_wp2_with fail
    go_loopw [4] (fun i wr => ∃ k : Nat, k ≤ nc ∧ i = .int .i64 k ∧ Hid (∃ c2, CopC c c2 ∧ c2.changes = c.changes.take k ∧ CpS 31 43 82 w c M g c2 wr)) (fun i _ => nc - (intOf i).toNat)
    case atStart => exact ⟨0, Nat.zero_le _, rfl, Lib.hid ⟨c', HCC.out, by rw [HCZ.out, List.take_zero], HL0.out⟩⟩
    case round =>
      obtain ⟨k, hk, rfl, hL⟩ := hrel
      obtain ⟨c2, hcc, hct, hcp⟩ := hL.out
      have HCC2 := Lib.hid hcc
      have HCT := Lib.hid hct
      have HL := Lib.hid hcp
      clear hL hcc hct hcp HL0 HCC HCZ
      have b10 := HL.out.ab.cell 10
      unfold cdC at b10
      simp only [List.getElem?_toArray, List.getElem?_cons_zero, List.getElem?_cons_succ] at b10
      rw [← HNC.out] at b10
      have hlb := HL.out.ab.lt
      by_cases hlt : k < nc
      · obtain ⟨x, hx⟩ := get_some (l := c.changes) (by rw [← HNC.out]; exact hlt)
        have HX := Lib.hid hx
        have HLEN : Hid (c2.changes.length = k) := Lib.hid (by rw [HCT.out, List.length_take, ← HNC.out]; omega)
        obtain ⟨b, off, hab, q0, q1, q2, q3, q4, q5⟩ := edit_at ((HC.out.row).ext HL.out.below) hx
        rw [hab] at b10
        have HAB := Lib.hid hab
        clear hx hab
        have hbl : b < wr.heap.size := cell_lt q0
        obtain ⟨ge, hge⟩ : ∃ q, q = wr.heap.size := ⟨_, rfl⟩
        obtain ⟨W2, hW2⟩ : ∃ q, q = wr.alloc (.cells #[.int .i64 x.fl, .int .i64 x.fu, .int .i64 x.tl, .int .i64 x.tu, .string ⟨x.text.toArray⟩, .bool x.whole] 82) := ⟨_, rfl⟩
        have hb : Below wr.heap.size wr W2 := by rw [hW2]; exact below_a1 _ _
        have HL2 : Hid (CpS 31 43 82 w c M g c2 W2) := Lib.hid (HL.out.ext hb)
        have HE : Hid (Blk W2 ge (edC x) 82) := Lib.hid (by rw [hW2, hge]; exact Blk.new rfl)
        go_upto_region 9 with (fail)
        rw [← hge, ← hW2]
        clear hW2 hge hb q0 q1 q2 q3 q4 q5 b10 hlb hbl
        have b10 := HL2.out.ab.cell 10
        have o10 := HL2.out.ob.cell 10
        unfold cdC at b10 o10
        simp only [List.getElem?_toArray, List.getElem?_cons_zero, List.getElem?_cons_succ] at b10 o10
        rw [← HNC.out] at b10
        have f10 := HL2.out.ob.free 10
        have hxe := HE.out
        unfold edC at hxe
        obtain ⟨z0, z1, z2, z3, z4, z5⟩ := hxe.sixT
        clear hxe
        rw [HLEN.out] at o10
        have HO : Hid (Own (W2.alloc (.cells (edC x) 82)) M 82 6 c2.a k c2.c (c2.changes.flatMap E.cells)) := Lib.hid (by rw [← HLEN.out]; exact HL2.out.own.ext (below_a1 _ _))
        have HMS : Hid (M ≤ (W2.alloc (.cells (edC x) 82)).heap.size) := Lib.hid (by have := HL2.out.ms; simp; omega)
        unfold edC at HO HMS
        have hob := HL2.out.ob.lt
        go_wp2_with (at_builtin; refine wpList_append_Own rfl _ _ 41 rfl M 82 _ 6 56 Tryz.underlying41 Tryz.infoEdit rfl (by decide) c2.a k c2.c _ rfl HO.out (some ⟨W2.heap.size, 0, none⟩) 1 1 x.cells rfl (row_blk (Blk.new rfl) rfl) (by intro u hu; simp [E.cells] at hu; rcases hu with rfl | rfl | rfl | rfl | rfl | rfl <;> rfl) (by unfold maxLen; omega) (by omega) HMS.out ?_; intro a5 c5 w5 ho5 hg5 hb5; have HG5 := Lib.hid hg5; have HO5 := Lib.hid ho5; have HL5 := Lib.hid ((HL2.out.ext (below_a1 _ _)).app (by rw [HLEN.out]; exact ho5) hg5); have f5 := (HL2.out.ob.ext (below_a1 W2 (.cells #[.int .i64 x.fl, .int .i64 x.fu, .int .i64 x.tl, .int .i64 x.tu, .string ⟨x.text.toArray⟩, .bool x.whole] 82))).grown hg5 (by have := HL2.out.own.apart HL2.out.gm; exact this); have g10 := f5.free 10; have s10 := f5.cell 10; unfold cdC at s10; simp only [List.getElem?_toArray, List.getElem?_cons_zero, List.getElem?_cons_succ] at s10; clear hg5 ho5 hb5 f5 z0 z1 z2 z3 z4 z5 o10 f10 b10)
        go_roundw
        case rel => exact ⟨k + 1, by omega, by go_num, Lib.hid ⟨_, copC_step HCC2.out _ _ _, by rw [take_snoc1 HX.out, ← HCT.out], by rw [← HLEN.out]; exact HL5.out⟩⟩
        case measure => simp [intOf]; omega
      · have hkn : k = nc := by omega
        subst hkn
        have HLT : Hid (c2.changes = c.changes) := Lib.hid (by rw [HCT.out, HNC.out, List.take_length])
        go_wp2_with (first | ((with_reducible show wpList _ _ _ (⟨some 70, _, _, _, _, _⟩ :: _) _ _); refine load_call rfl _ rfl g rfl c2 HL.out.ob ?_) | ((with_reducible show wpList _ _ _ (⟨none, Op.store 43 (Operand.tmp 2) _, _, _, _, _⟩ :: _) _ _); refine store_call rfl _ _ rfl (w.heap.size + 1) c2 zeroCD rfl rfl HL.out.rb ?_))
        exact of04_end (g := w.heap.size + 1) rfl (setRow_blk HL.out.rb) (HL.out.fin HCC2.out HLT.out)
end Go.Proofs.YthnbeebilomchaaGreatDoor

namespace Go.Proofs.YthnbeebilomchaaGreatDoor
open Go Go.RowKit

theorem to04_end {W : World} {tm : Array Value} {R : Ending → World → Prop} {g : Nat} {c : CD} (h2 : tm.getD 2 undef = .pointer (some ⟨g, 0, none⟩)) (hB : Blk W g (cdC c) 31)
    (hR : R (.returned (.agg (cdC c))) W) : bodyPost Tryz.prog Tryz.f25 R .ret { tmps := tm, defers := [] } W := by
  obtain ⟨fs, h1⟩ := docCall_under
  exact bodyPost_ret (v := .agg (cdC c)) (results_cell_row Tryz.results25 tm W g _ _ _ _ h2 hB h1 rfl docCall_size) rfl hR
theorem toB_any {w W : World} {d : VD} (hs : w.heap.size ≤ W.heap.size) (h : ValAt W (fun k => k < w.heap.size) d) (hz : sizeV d.v ≤ 1048576) : Calls Tryz.prog 12 #[.agg #[.int .i64 d.sort, .bool d.on, .int .i64 d.n, .string ⟨d.text.toArray⟩, .slice d.a d.list.length d.c, .slice d.ka d.keys.length d.kc]] W (OfE w.heap.size W d.v) := by
  have h1 := to_any d w.heap.size W hs h hz
  rwa [VD.val6] at h1
set_option maxHeartbeats 8000000 in
set_option maxRecDepth 20000 in
theorem to04_any (c : CD) (w : World) (hc : CallAt w c) (hs1 : sizeV c.id.v ≤ 1048576) (hs2 : sizeV c.other.v ≤ 1048576) (hn : c.changes.length ≤ 1048576) : Calls Tryz.prog 25 #[.agg (cdC c)] w (CalE w c) := by
  obtain ⟨W1, hW1⟩ : ∃ q, q = (w.alloc (.cells (cdC c) 43)).alloc (.cells #[.int .i64 0, .int .i64 0, .bool false, .int .i64 0, .string { data := #[] }, .slice none 0 0, .slice none 0 0, .string { data := #[] }, .int .i64 0, .string { data := #[] }, .slice none 0 0, .int .i64 0, .int .i64 0, .int .i64 0, .bool false, .int .i64 0, .string { data := #[] }, .slice none 0 0, .slice none 0 0] 31) := ⟨_, rfl⟩
  have hb : Below w.heap.size w W1 := by rw [hW1]; exact (below_a1 w _).alloc (by simp) _
  have HAB : Hid (Blk W1 w.heap.size (cdC c) 43) := Lib.hid (by rw [hW1]; exact (Blk.new rfl).alloc _)
  have HRB : Hid (Blk W1 (w.heap.size + 1) (cdC zeroCD) 31) := Lib.hid (by rw [hW1]; exact Blk.new (by simp))
  have HVA : Hid (ValAt W1 (fun k => k < w.heap.size) c.id ∧ ValAt W1 (fun k => k < w.heap.size) c.other) := Lib.hid ⟨(cd_rows hc).1.ext hb, (cd_rows hc).2.ext hb⟩
  have HC : Hid (CallAt w c) := Lib.hid hc
  have HB1 : Hid (Below w.heap.size w W1) := Lib.hid hb
  have HS1 := Lib.hid hs1
  have HS2 := Lib.hid hs2
  have HN := Lib.hid hn
  clear hb hc hs1 hs2 hn
  go_enter Tryz.func25, Tryz.ntmps25
  go_upto_region 1 with (fail)
  rw [← hW1]
  clear hW1
  refine wp_region_held_drew (S := (fun w' => Blk w' w.heap.size (cdC c) 43)) (by kernel_rfl) ?_ (fun hHeld => ?_)
  · exact HAB.out
  refine wpAnyH_take (i := 0) (oi := ⟨some 6, _, _, _, _, _⟩) (v := ?_) rfl (by kernel_rfl) (by kernel_rfl) (by kernel_rfl) (fun _ _ _ h => h) (Or.inl ⟨by rfl, ?_⟩) (by assumption) ?_; rotate_left; focus (intro w hSw; (try dsimp only at hSw); first | (go_simp; done) | (go_simp; with_reducible rfl))
  try simp only [Act.put]
  try simp only [List.setIfInBounds_toArray]
  try simp only [List.set_cons_succ, List.set_cons_zero]
  refine wpAnyH_take (i := 1) (oi := ⟨some 7, _, _, _, _, _⟩) (v := ?_) rfl (by kernel_rfl) (by kernel_rfl) (by kernel_rfl) (fun _ _ _ h => h) (Or.inl ⟨by rfl, ?_⟩) (by assumption) ?_; rotate_left; focus (intro w hSw; (try dsimp only at hSw); have b0 := Blk.cell hSw 0; unfold cdC at b0; simp only [List.getElem?_toArray, List.getElem?_cons_zero] at b0; first | (go_simp; done) | (go_simp; with_reducible rfl))
  try simp only [Act.put]
  try simp only [List.setIfInBounds_toArray]
  try simp only [List.set_cons_succ, List.set_cons_zero]
  refine wpAnyH_take (i := 2) (oi := ⟨some 8, _, _, _, _, _⟩) (v := ?_) rfl (by kernel_rfl) (by kernel_rfl) (by kernel_rfl) (fun _ _ _ h => h) (Or.inl ⟨by rfl, ?_⟩) (by assumption) ?_; rotate_left; focus (intro w hSw; (try dsimp only at hSw); first | (go_simp; done) | (go_simp; with_reducible rfl))
  try simp only [Act.put]
  try simp only [List.setIfInBounds_toArray]
  try simp only [List.set_cons_succ, List.set_cons_zero]
  refine wpAnyH_take (i := 3) (oi := ⟨some 9, _, _, _, _, _⟩) (v := ?_) rfl (by kernel_rfl) (by kernel_rfl) (by kernel_rfl) (fun _ _ _ h => h) (Or.inl ⟨by rfl, ?_⟩) (by assumption) ?_; rotate_left; focus (intro w hSw; (try dsimp only at hSw); have b1 := Blk.cell hSw 1; have b2 := Blk.cell hSw 2; have b3 := Blk.cell hSw 3; have b4 := Blk.cell hSw 4; have b5 := Blk.cell hSw 5; have b6 := Blk.cell hSw 6; unfold cdC at b1 b2 b3 b4 b5 b6; simp only [List.getElem?_toArray, List.getElem?_cons_zero, List.getElem?_cons_succ] at b1 b2 b3 b4 b5 b6; first | (go_simp; done) | (go_simp; with_reducible rfl))
  try simp only [Act.put]
  try simp only [List.setIfInBounds_toArray]
  try simp only [List.set_cons_succ, List.set_cons_zero]
  refine wpAnyH_take (i := 5) (oi := ⟨some 11, _, _, _, _, _⟩) (v := ?_) rfl (by kernel_rfl) (by kernel_rfl) (by kernel_rfl) (fun _ _ _ h => h) (Or.inl ⟨by rfl, ?_⟩) (by assumption) ?_; rotate_left; focus (intro w hSw; (try dsimp only at hSw); first | (go_simp; done) | (go_simp; with_reducible rfl))
  try simp only [Act.put]
  try simp only [List.setIfInBounds_toArray]
  try simp only [List.set_cons_succ, List.set_cons_zero]
  refine wpAnyH_take (i := 6) (oi := ⟨some 12, _, _, _, _, _⟩) (v := ?_) rfl (by kernel_rfl) (by kernel_rfl) (by kernel_rfl) (fun _ _ _ h => h) (Or.inl ⟨by rfl, ?_⟩) (by assumption) ?_; rotate_left; focus (intro w hSw; (try dsimp only at hSw); have b7 := Blk.cell hSw 7; unfold cdC at b7; simp only [List.getElem?_toArray, List.getElem?_cons_zero, List.getElem?_cons_succ] at b7; first | (go_simp; done) | (go_simp; with_reducible rfl))
  try simp only [Act.put]
  try simp only [List.setIfInBounds_toArray]
  try simp only [List.set_cons_succ, List.set_cons_zero]
  refine wpAnyH_take (i := 7) (oi := ⟨some 13, _, _, _, _, _⟩) (v := ?_) rfl (by kernel_rfl) (by kernel_rfl) (by kernel_rfl) (fun _ _ _ h => h) (Or.inl ⟨by rfl, ?_⟩) (by assumption) ?_; rotate_left; focus (intro w hSw; (try dsimp only at hSw); first | (go_simp; done) | (go_simp; with_reducible rfl))
  try simp only [Act.put]
  try simp only [List.setIfInBounds_toArray]
  try simp only [List.set_cons_succ, List.set_cons_zero]
  refine wpAnyH_take (i := 8) (oi := ⟨some 14, _, _, _, _, _⟩) (v := ?_) rfl (by kernel_rfl) (by kernel_rfl) (by kernel_rfl) (fun _ _ _ h => h) (Or.inl ⟨by rfl, ?_⟩) (by assumption) ?_; rotate_left; focus (intro w hSw; (try dsimp only at hSw); have b8 := Blk.cell hSw 8; unfold cdC at b8; simp only [List.getElem?_toArray, List.getElem?_cons_zero, List.getElem?_cons_succ] at b8; first | (go_simp; done) | (go_simp; with_reducible rfl))
  try simp only [Act.put]
  try simp only [List.setIfInBounds_toArray]
  try simp only [List.set_cons_succ, List.set_cons_zero]
  refine wpAnyH_take (i := 9) (oi := ⟨some 15, _, _, _, _, _⟩) (v := ?_) rfl (by kernel_rfl) (by kernel_rfl) (by kernel_rfl) (fun _ _ _ h => h) (Or.inl ⟨by rfl, ?_⟩) (by assumption) ?_; rotate_left; focus (intro w hSw; (try dsimp only at hSw); first | (go_simp; done) | (go_simp; with_reducible rfl))
  try simp only [Act.put]
  try simp only [List.setIfInBounds_toArray]
  try simp only [List.set_cons_succ, List.set_cons_zero]
  refine wpAnyH_take (i := 10) (oi := ⟨some 16, _, _, _, _, _⟩) (v := ?_) rfl (by kernel_rfl) (by kernel_rfl) (by kernel_rfl) (fun _ _ _ h => h) (Or.inl ⟨by rfl, ?_⟩) (by assumption) ?_; rotate_left; focus (intro w hSw; (try dsimp only at hSw); have b9 := Blk.cell hSw 9; unfold cdC at b9; simp only [List.getElem?_toArray, List.getElem?_cons_zero, List.getElem?_cons_succ] at b9; first | (go_simp; done) | (go_simp; with_reducible rfl))
  try simp only [Act.put]
  try simp only [List.setIfInBounds_toArray]
  try simp only [List.set_cons_succ, List.set_cons_zero]
  refine wpAnyH_take (i := 11) (oi := ⟨some 17, _, _, _, _, _⟩) (v := ?_) rfl (by kernel_rfl) (by kernel_rfl) (by kernel_rfl) (fun _ _ _ h => h) (Or.inl ⟨by rfl, ?_⟩) (by assumption) ?_; rotate_left; focus (intro w hSw; (try dsimp only at hSw); first | (go_simp; done) | (go_simp; with_reducible rfl))
  try simp only [Act.put]
  try simp only [List.setIfInBounds_toArray]
  try simp only [List.set_cons_succ, List.set_cons_zero]
  refine wpAnyH_take (i := 12) (oi := ⟨some 18, _, _, _, _, _⟩) (v := ?_) rfl (by kernel_rfl) (by kernel_rfl) (by kernel_rfl) (fun _ _ _ h => h) (Or.inl ⟨by rfl, ?_⟩) (by assumption) ?_; rotate_left; focus (intro w hSw; (try dsimp only at hSw); have b11 := Blk.cell hSw 11; have b12 := Blk.cell hSw 12; unfold cdC at b11 b12; simp only [List.getElem?_toArray, List.getElem?_cons_zero, List.getElem?_cons_succ] at b11 b12; first | (go_simp; done) | (go_simp; with_reducible rfl))
  try simp only [Act.put]
  try simp only [List.setIfInBounds_toArray]
  try simp only [List.set_cons_succ, List.set_cons_zero]
  refine wpAnyH_take (i := 13) (oi := ⟨some 19, _, _, _, _, _⟩) (v := ?_) rfl (by kernel_rfl) (by kernel_rfl) (by kernel_rfl) (fun _ _ _ h => h) (Or.inl ⟨by rfl, ?_⟩) (by assumption) ?_; rotate_left; focus (intro w hSw; (try dsimp only at hSw); first | (go_simp; done) | (go_simp; with_reducible rfl))
  try simp only [Act.put]
  try simp only [List.setIfInBounds_toArray]
  try simp only [List.set_cons_succ, List.set_cons_zero]
  refine wpAnyH_take (i := 14) (oi := ⟨some 20, _, _, _, _, _⟩) (v := ?_) rfl (by kernel_rfl) (by kernel_rfl) (by kernel_rfl) (fun _ _ _ h => h) (Or.inl ⟨by rfl, ?_⟩) (by assumption) ?_; rotate_left; focus (intro w hSw; (try dsimp only at hSw); have b13 := Blk.cell hSw 13; have b14 := Blk.cell hSw 14; have b15 := Blk.cell hSw 15; have b16 := Blk.cell hSw 16; have b17 := Blk.cell hSw 17; have b18 := Blk.cell hSw 18; unfold cdC at b13 b14 b15 b16 b17 b18; simp only [List.getElem?_toArray, List.getElem?_cons_zero, List.getElem?_cons_succ] at b13 b14 b15 b16 b17 b18; first | (go_simp; done) | (go_simp; with_reducible rfl))
  try simp only [Act.put]
  try simp only [List.setIfInBounds_toArray]
  try simp only [List.set_cons_succ, List.set_cons_zero]
  refine wpAnyH_invF [10, 21, 22, 3] [0, 1, 2, 3, 5, 6, 7, 8, 9, 10, 11, 12, 13, 14] (O1 43 31 w c) (by kernel_rfl) (by rfl) (by kernel_rfl) (by kernel_rfl) (Nat.le_of_ble_eq_true (by kernel_rfl)) ?_ ?_ ?_ ?_
  · intro D s W hJ
    exact hJ.ab
  · intro s
    exact O1.start HAB.out HRB.out (HVA.out.1.ext (Below.refl _ _).drew) (HVA.out.2.ext (Below.refl _ _).drew) HB1.out.drew rfl rfl rfl rfl
  · refine InvAllF.skip (by kernel_rfl) ?_
    refine InvAllF.skip (by kernel_rfl) ?_
    refine InvAllF.skip (by kernel_rfl) ?_
    refine InvAllF.skip (by kernel_rfl) ?_
    refine InvAllF.cons (o := ⟨some 10, _, _, _, _, _⟩) (by kernel_rfl) (fun D s W hD hdep hno hJ K hK => ?_) ?_
    · have n15 : D 15 = false := hno 15 (by kernel_rfl)
      have n16 : D 16 = false := hno 16 (by kernel_rfl)
      have n18 : D 18 = false := hno 18 (by kernel_rfl)
      clear hdep hno
      simp only [setAll, List.foldl_cons, List.foldl_nil, Act.put, List.setIfInBounds_toArray, List.set_cons_succ, List.set_cons_zero]
      have h1 := toB_any (w := w) (W := W) (by have := hJ.sz; omega) hJ.va HS1.out
      have H1 := Lib.hid h1
      clear h1
      have HJ := Lib.hid hJ
      clear hJ
      go_simp
      refine H1.out.mono ?_
      rintro e w2 ⟨y, rfl, hyv, hya, hb⟩
      clear H1
      refine hK.out _ _ _ ?_ (HJ.out.op4 hb ⟨y, rfl, hyv, hya.mono fun k hk _ => HJ.out.nb n18 hk⟩)
      simp only [setAll, List.foldl_cons, List.foldl_nil, Act.put, List.setIfInBounds_toArray, List.set_cons_succ, List.set_cons_zero]
    refine InvAllF.skip (by kernel_rfl) ?_
    refine InvAllF.skip (by kernel_rfl) ?_
    refine InvAllF.skip (by kernel_rfl) ?_
    refine InvAllF.skip (by kernel_rfl) ?_
    refine InvAllF.skip (by kernel_rfl) ?_
    refine InvAllF.skip (by kernel_rfl) ?_
    refine InvAllF.skip (by kernel_rfl) ?_
    refine InvAllF.skip (by kernel_rfl) ?_
    refine InvAllF.skip (by kernel_rfl) ?_
    refine InvAllF.skip (by kernel_rfl) ?_
    refine InvAllF.cons (o := ⟨some 21, _, _, _, _, _⟩) (by kernel_rfl) (fun D s W hD hdep hno hJ K hK => ?_) ?_
    · have e4 : D 4 = true := hdep 4 (by kernel_rfl)
      have n16 : D 16 = false := hno 16 (by kernel_rfl)
      have n18 : D 18 = false := hno 18 (by kernel_rfl)
      clear hdep hno
      simp only [setAll, List.foldl_cons, List.foldl_nil, Act.put, List.setIfInBounds_toArray, List.set_cons_succ, List.set_cons_zero]
      have h1 := toB_any (w := w) (W := W) (by have := hJ.sz; omega) hJ.vo HS2.out
      have H1 := Lib.hid h1
      clear h1
      have HJ := Lib.hid hJ
      clear hJ
      go_simp
      refine H1.out.mono ?_
      rintro e w2 ⟨y, rfl, hyv, hya, hb⟩
      clear H1
      refine hK.out _ _ _ ?_ (HJ.out.op15 hb ⟨y, rfl, hyv, hya.mono fun k hk _ => HJ.out.nb n18 hk⟩)
      simp only [setAll, List.foldl_cons, List.foldl_nil, Act.put, List.setIfInBounds_toArray, List.set_cons_succ, List.set_cons_zero]
    refine InvAllF.cons (o := ⟨some 22, _, _, _, _, _⟩) (by kernel_rfl) (fun D s W hD hdep hno hJ K hK => ?_) ?_
    · have e4 : D 4 = true := hdep 4 (by kernel_rfl)
      have e15 : D 15 = true := hdep 15 (by kernel_rfl)
      have n18 : D 18 = false := hno 18 (by kernel_rfl)
      clear hdep hno
      simp only [setAll, List.foldl_cons, List.foldl_nil, Act.put, List.setIfInBounds_toArray, List.set_cons_succ, List.set_cons_zero]
      obtain ⟨y1, q10, qv1, qa1⟩ := hJ.c10 e4 n18
      obtain ⟨y2, q21, qv2, qa2⟩ := hJ.c21 e15 n18
      have HQ1 := Lib.hid q10
      have HQ2 := Lib.hid q21
      have HV := Lib.hid (And.intro (And.intro qv1 qa1) (And.intro qv2 qa2))
      clear q10 q21 qv1 qa1 qv2 qa2
      have HJ := Lib.hid hJ
      clear hJ
      simp only [HQ1.out, HQ2.out]
      go_simp
      refine hK.out _ _ _ ?_ (HJ.out.op16 HV.out.1.2 HV.out.2.2 HV.out.1.1 HV.out.2.1)
      simp only [HQ1.out, HQ2.out, setAll, List.foldl_cons, List.foldl_nil, Act.put, List.setIfInBounds_toArray, List.set_cons_succ, List.set_cons_zero]
      rfl
    refine InvAllF.cons (o := ⟨some 3, _, _, _, _, _⟩) (by kernel_rfl) (fun D s W hD hdep hno hJ K hK => ?_) ?_
    · have n18 : D 18 = false := hno 18 (by kernel_rfl)
      clear hdep hno
      simp only [setAll, List.foldl_cons, List.foldl_nil, Act.put, List.setIfInBounds_toArray, List.set_cons_succ, List.set_cons_zero]
      have HJ := Lib.hid hJ
      clear hJ
      go_simp
      refine hK.out _ _ _ ?_ (HJ.out.op17 n18)
      simp only [setAll, List.foldl_cons, List.foldl_nil, Act.put, List.setIfInBounds_toArray, List.set_cons_succ, List.set_cons_zero]
    refine InvAllF.cons (o := ⟨none, _, _, _, _, _⟩) (by kernel_rfl) (fun D s W hD hdep hno hJ K hK => ?_) ?_
    · have e4 : D 4 = true := hdep 4 (by kernel_rfl)
      have e15 : D 15 = true := hdep 15 (by kernel_rfl)
      have e16 : D 16 = true := hdep 16 (by kernel_rfl)
      have e17 : D 17 = true := hdep 17 (by kernel_rfl)
      clear hdep hno
      simp only [setAll, List.foldl_cons, List.foldl_nil, Act.put, List.setIfInBounds_toArray, List.set_cons_succ, List.set_cons_zero]
      obtain ⟨c', qc, qz, q22, qi, qo⟩ := hJ.c22 e16 hD
      obtain ⟨g, q3, hg, hB, -⟩ := hJ.b0 e17
      have hB := hB hD
      have HQ := Lib.hid q22
      have HQ3 := Lib.hid q3
      have HV := Lib.hid (And.intro (And.intro qc qz) (And.intro qi qo))
      have HBK := Lib.hid hB
      clear q22 qc qz qi qo q3 hB
      have HJ := Lib.hid hJ
      clear hJ
      simp only [HQ.out, HQ3.out]
      rw [if_pos (by simp [Region.wanted])]
      refine wp_store_row 31 _ _ rfl g (cdC c') rfl rfl _ _ HBK.out docCall_size rfl (cdC_one c') ?_
      refine hK.out _ undef _ ?_ (HJ.out.op18 HQ3.out hg HBK.out HV.out.1.1 HV.out.1.2 HV.out.2.1 HV.out.2.2 e17)
      simp only [HQ.out, HQ3.out, setAll, List.foldl_cons, List.foldl_nil, Act.put, List.setIfInBounds_toArray, List.set_cons_succ, List.set_cons_zero]
    exact InvAllF.nil
  · intro D s W hD hJ
    obtain ⟨g, c', q3, hcc, hcz, hcp⟩ := hJ.ends 71 (hD 17 (by decide)) (hD 18 (by decide))
    obtain ⟨M, hM⟩ : ∃ M, M = W.heap.size := ⟨_, rfl⟩
    rw [← hM] at hcp
    have HL0 := Lib.hid hcp
    have HCC := Lib.hid hcc
    have HCZ := Lib.hid hcz
    clear hJ hD hcc hcz hcp hM HAB HRB HVA HB1
    simp only [setAll, List.foldl_cons, List.foldl_nil, Act.put, List.setIfInBounds_toArray, List.set_cons_succ, List.set_cons_zero]
    rw [q3]
    clear q3
    generalize s 10 = u10
    generalize s 21 = u21
    generalize s 22 = u22
    clear s D
    have hn := HN.out
    obtain ⟨nc, hnc⟩ : ∃ q, q = c.changes.length := ⟨_, rfl⟩
    have HNC := Lib.hid hnc
    rw [← hnc] at hn
    clear hnc
    go_wp2_with fail
    go_loopw [4] (fun i wr => ∃ k : Nat, k ≤ nc ∧ i = .int .i64 k ∧ Hid (∃ c2, CopC c c2 ∧ c2.changes = c.changes.take k ∧ CpS 43 31 71 w c M g c2 wr)) (fun i _ => nc - (intOf i).toNat)
    case atStart => exact ⟨0, Nat.zero_le _, rfl, Lib.hid ⟨c', HCC.out, by rw [HCZ.out, List.take_zero], HL0.out⟩⟩
    case round =>
      obtain ⟨k, hk, rfl, hL⟩ := hrel
      obtain ⟨c2, hcc, hct, hcp⟩ := hL.out
      have HCC2 := Lib.hid hcc
      have HCT := Lib.hid hct
      have HL := Lib.hid hcp
      clear hL hcc hct hcp HL0 HCC HCZ
      have b10 := HL.out.ab.cell 10
      unfold cdC at b10
      simp only [List.getElem?_toArray, List.getElem?_cons_zero, List.getElem?_cons_succ] at b10
      rw [← HNC.out] at b10
      have hlb := HL.out.ab.lt
      by_cases hlt : k < nc
      · obtain ⟨x, hx⟩ := get_some (l := c.changes) (by rw [← HNC.out]; exact hlt)
        have HX := Lib.hid hx
        have HLEN : Hid (c2.changes.length = k) := Lib.hid (by rw [HCT.out, List.length_take, ← HNC.out]; omega)
        obtain ⟨b, off, hab, q0, q1, q2, q3, q4, q5⟩ := edit_at ((HC.out.row).ext HL.out.below) hx
        rw [hab] at b10
        have HAB := Lib.hid hab
        clear hx hab
        have hbl : b < wr.heap.size := cell_lt q0
        obtain ⟨ge, hge⟩ : ∃ q, q = wr.heap.size := ⟨_, rfl⟩
        obtain ⟨W2, hW2⟩ : ∃ q, q = wr.alloc (.cells #[.int .i64 x.fl, .int .i64 x.fu, .int .i64 x.tl, .int .i64 x.tu, .string ⟨x.text.toArray⟩, .bool x.whole] 82) := ⟨_, rfl⟩
        have hb : Below wr.heap.size wr W2 := by rw [hW2]; exact below_a1 _ _
        have HL2 : Hid (CpS 43 31 71 w c M g c2 W2) := Lib.hid (HL.out.ext hb)
        have HE : Hid (Blk W2 ge (edC x) 82) := Lib.hid (by rw [hW2, hge]; exact Blk.new rfl)
        go_upto_region 6 with (fail)
        rw [← hge, ← hW2]
        clear hW2 hge hb q0 q1 q2 q3 q4 q5 b10 hlb hbl
        have b10 := HL2.out.ab.cell 10
        have o10 := HL2.out.ob.cell 10
        unfold cdC at b10 o10
        simp only [List.getElem?_toArray, List.getElem?_cons_zero, List.getElem?_cons_succ] at b10 o10
        rw [← HNC.out] at b10
        have f10 := HL2.out.ob.free 10
        have hxe := HE.out
        unfold edC at hxe
        obtain ⟨z0, z1, z2, z3, z4, z5⟩ := hxe.sixT
        clear hxe
        rw [HLEN.out] at o10
        have HO : Hid (Own (W2.alloc (.cells (edC x) 71)) M 71 6 c2.a k c2.c (c2.changes.flatMap E.cells)) := Lib.hid (by rw [← HLEN.out]; exact HL2.out.own.ext (below_a1 _ _))
        have HMS : Hid (M ≤ (W2.alloc (.cells (edC x) 71)).heap.size) := Lib.hid (by have := HL2.out.ms; simp; omega)
        unfold edC at HO HMS
        have hob := HL2.out.ob.lt
        go_wp2_with (at_builtin; refine wpList_append_Own rfl _ _ 27 rfl M 71 _ 6 56 Tryz.underlying27 Tryz.infoDocEdit rfl (by decide) c2.a k c2.c _ rfl HO.out (some ⟨W2.heap.size, 0, none⟩) 1 1 x.cells rfl (row_blk (Blk.new rfl) rfl) (by intro u hu; simp [E.cells] at hu; rcases hu with rfl | rfl | rfl | rfl | rfl | rfl <;> rfl) (by unfold maxLen; omega) (by omega) HMS.out ?_; intro a5 c5 w5 ho5 hg5 hb5; have HG5 := Lib.hid hg5; have HO5 := Lib.hid ho5; have HL5 := Lib.hid ((HL2.out.ext (below_a1 _ _)).app (by rw [HLEN.out]; exact ho5) hg5); have f5 := (HL2.out.ob.ext (below_a1 W2 (.cells #[.int .i64 x.fl, .int .i64 x.fu, .int .i64 x.tl, .int .i64 x.tu, .string ⟨x.text.toArray⟩, .bool x.whole] 71))).grown hg5 (by have := HL2.out.own.apart HL2.out.gm; exact this); have g10 := f5.free 10; have s10 := f5.cell 10; unfold cdC at s10; simp only [List.getElem?_toArray, List.getElem?_cons_zero, List.getElem?_cons_succ] at s10; clear hg5 ho5 hb5 f5 z0 z1 z2 z3 z4 z5 o10 f10 b10)
        go_roundw
        case rel => exact ⟨k + 1, by omega, by go_num, Lib.hid ⟨_, copC_step HCC2.out _ _ _, by rw [take_snoc1 HX.out, ← HCT.out], by rw [← HLEN.out]; exact HL5.out⟩⟩
        case measure => simp [intOf]; omega
      · have hkn : k = nc := by omega
        subst hkn
        have HLT : Hid (c2.changes = c.changes) := Lib.hid (by rw [HCT.out, HNC.out, List.take_length])
        go_wp2_with (first | ((with_reducible show wpList _ _ _ (⟨some 53, _, _, _, _, _⟩ :: _) _ _); refine load_doc rfl _ rfl g rfl c2 HL.out.ob ?_) | ((with_reducible show wpList _ _ _ (⟨none, Op.store 31 (Operand.tmp 2) _, _, _, _, _⟩ :: _) _ _); refine store_doc rfl _ _ rfl (w.heap.size + 1) c2 zeroCD rfl rfl HL.out.rb ?_))
        exact to04_end (g := w.heap.size + 1) rfl (setRow_blk HL.out.rb) (HL.out.fin HCC2.out HLT.out)
end Go.Proofs.YthnbeebilomchaaGreatDoor

namespace Go.Proofs.YthnbeebilomchaaGreatDoor
open Go Go.RowKit

structure SaR (w : World) (a b : CD) (W : World) : Prop where
  below : Below w.heap.size w W
  ablk : Blk W w.heap.size (cdC a) 31
  bblk : Blk W (w.heap.size + 1) (cdC b) 31
  aat : CallAt W a
  bat : CallAt W b
theorem SaR.ext {w : World} {a b : CD} {W W' : World} (h : SaR w a b W) (hb : Below W.heap.size W W') : SaR w a b W' := ⟨h.below.trans (hb.mono h.below.size), h.ablk.ext hb, h.bblk.ext hb, h.aat.ext hb, h.bat.ext hb⟩
theorem neq_place (a b c d : Int) (w : World) : (binOp .neq 29 (.agg #[.int .i64 a, .int .i64 b]) (.agg #[.int .i64 c, .int .i64 d])).run Tryz.prog w = .ok (.bool (!(a == c && b == d))) w := by
  by_cases h1 : a = c <;> by_cases h2 : b = d <;> simp [binOp, Op.equal, Op.maxDepth, go_sem, h1, h2]
set_option maxHeartbeats 4000000 in
theorem neq_editR (a b : E) (w : World) : (binOp .neq 71 (.agg #[.int .i64 a.fl, .int .i64 a.fu, .int .i64 a.tl, .int .i64 a.tu, .string ⟨a.text.toArray⟩, .bool a.whole]) (.agg #[.int .i64 b.fl, .int .i64 b.fu, .int .i64 b.tl, .int .i64 b.tu, .string ⟨b.text.toArray⟩, .bool b.whole])).run Tryz.prog w = .ok (.bool (!edB a b)) w := by
  unfold edB
  by_cases h1 : a.fl = b.fl
  · by_cases h2 : a.fu = b.fu
    · by_cases h3 : a.tl = b.tl
      · by_cases h4 : a.tu = b.tu
        · by_cases h5 : a.text = b.text
          · by_cases h6 : a.whole = b.whole
            · simp [binOp, Op.equal, Op.maxDepth, go_sem, h1, h2, h3, h4, h5, h6]
            · simp [binOp, Op.equal, Op.maxDepth, go_sem, h1, h2, h3, h4, h5, h6]
          · simp [binOp, Op.equal, Op.maxDepth, go_sem, h1, h2, h3, h4, h5]
        · simp [binOp, Op.equal, Op.maxDepth, go_sem, h1, h2, h3, h4]
      · simp [binOp, Op.equal, Op.maxDepth, go_sem, h1, h2, h3]
    · simp [binOp, Op.equal, Op.maxDepth, go_sem, h1, h2]
  · simp [binOp, Op.equal, Op.maxDepth, go_sem, h1]
set_option maxHeartbeats 8000000 in
set_option maxRecDepth 20000 in
theorem sameC_any (a b : CD) (w : World) (ha : CallAt w a) (hb : CallAt w b) (hsa : sizeV a.id.v ≤ 1048576) (hsa2 : sizeV a.other.v ≤ 1048576) (hn : a.changes.length ≤ 1048576) :
    Calls Tryz.prog 24 #[.agg (cdC a), .agg (cdC b)] w (Ret w (IsB (SameP a b))) := by
  obtain ⟨W0, hW0⟩ : ∃ W0, W0 = (w.alloc (.cells (cdC a) 31)).alloc (.cells (cdC b) 31) := ⟨_, rfl⟩
  have hb0 : Below w.heap.size w W0 := by rw [hW0]; exact (below_a1 w _).alloc (by simp) _
  have HS0 : Hid (SaR w a b W0) := Lib.hid ⟨hb0, by rw [hW0]; exact (Blk.new rfl).alloc _, by rw [hW0]; exact Blk.new (by simp), ha.ext hb0, hb.ext hb0⟩
  have HSA := Lib.hid hsa
  have HSO := Lib.hid hsa2
  have HNA := Lib.hid hn
  clear ha hb hsa hsa2 hn hb0
  go_enter Tryz.func24, Tryz.ntmps24
  go_upto_region 1 with (fail)
  rw [← hW0]
  clear hW0
  have a1 := HS0.out.ablk.cell 1
  have a2 := HS0.out.ablk.cell 2
  have a3 := HS0.out.ablk.cell 3
  have a4 := HS0.out.ablk.cell 4
  have a5 := HS0.out.ablk.cell 5
  have a6 := HS0.out.ablk.cell 6
  have b1 := HS0.out.bblk.cell 1
  have b2 := HS0.out.bblk.cell 2
  have b3 := HS0.out.bblk.cell 3
  have b4 := HS0.out.bblk.cell 4
  have b5 := HS0.out.bblk.cell 5
  have b6 := HS0.out.bblk.cell 6
  unfold cdC at a1 a2 a3 a4 a5 a6 b1 b2 b3 b4 b5 b6
  simp only [List.getElem?_toArray, List.getElem?_cons_zero, List.getElem?_cons_succ] at a1 a2 a3 a4 a5 a6 b1 b2 b3 b4 b5 b6
  have h1 := sameR_any a.id b.id W0 HS0.out.aat.id HS0.out.bat.id HSA.out
  rw [VD.val6, VD.val6] at h1
  have H1 := Lib.hid h1
  clear h1
  go_wp2_with fail
  refine H1.out.mono ?_
  rintro e W1 ⟨_, rfl, hb1, r1, rfl, hr1⟩
  have HR1 := Lib.hid hr1
  have HS1 := Lib.hid (HS0.out.ext hb1)
  clear a1 a2 a3 a4 a5 a6 b1 b2 b3 b4 b5 b6
  clear hb1 hr1 H1 HS0
  have a13 := HS1.out.ablk.cell 13
  have a14 := HS1.out.ablk.cell 14
  have a15 := HS1.out.ablk.cell 15
  have a16 := HS1.out.ablk.cell 16
  have a17 := HS1.out.ablk.cell 17
  have a18 := HS1.out.ablk.cell 18
  have b13 := HS1.out.bblk.cell 13
  have b14 := HS1.out.bblk.cell 14
  have b15 := HS1.out.bblk.cell 15
  have b16 := HS1.out.bblk.cell 16
  have b17 := HS1.out.bblk.cell 17
  have b18 := HS1.out.bblk.cell 18
  unfold cdC at a13 a14 a15 a16 a17 a18 b13 b14 b15 b16 b17 b18
  simp only [List.getElem?_toArray, List.getElem?_cons_zero, List.getElem?_cons_succ] at a13 a14 a15 a16 a17 a18 b13 b14 b15 b16 b17 b18
  have h1 := sameR_any a.other b.other W1 HS1.out.aat.other HS1.out.bat.other HSO.out
  rw [VD.val6, VD.val6] at h1
  have H1 := Lib.hid h1
  clear h1
  go_wp2_with fail
  refine H1.out.mono ?_
  rintro e W2 ⟨_, rfl, hb1, r2, rfl, hr1⟩
  have HR2 := Lib.hid hr1
  have HS2 := Lib.hid (HS1.out.ext hb1)
  clear a13 a14 a15 a16 a17 a18 b13 b14 b15 b16 b17 b18
  clear hb1 hr1 H1 HS1
  cases r1 with
  | false =>
    have HF : Hid (a.id.v ≠ b.id.v) := Lib.hid (fun h => by have := HR1.out.2 h; cases this)
    go_wp2
    go_ret
    exact ⟨_, rfl, HS2.out.below, false, rfl, ⟨(fun h => by cases h), fun h => absurd h.2.1 (by first | exact HF.out | (simpa using HF.out))⟩⟩
  | true =>
  have HE1 : Hid (a.id.v = b.id.v) := Lib.hid (HR1.out.1 rfl)
  cases r2 with
  | false =>
    have HF : Hid (a.other.v ≠ b.other.v) := Lib.hid (fun h => by have := HR2.out.2 h; cases this)
    go_wp2
    go_ret
    exact ⟨_, rfl, HS2.out.below, false, rfl, ⟨(fun h => by cases h), fun h => absurd h.2.2.2.2.2.2.2 (by first | exact HF.out | (simpa using HF.out))⟩⟩
  | true =>
  have HE2 : Hid (a.other.v = b.other.v) := Lib.hid (HR2.out.1 rfl)
  clear HR1 HR2
  have a0 := HS2.out.ablk.cell 0
  have a7 := HS2.out.ablk.cell 7
  have a8 := HS2.out.ablk.cell 8
  have a9 := HS2.out.ablk.cell 9
  have a10 := HS2.out.ablk.cell 10
  have a11 := HS2.out.ablk.cell 11
  have a12 := HS2.out.ablk.cell 12
  have b0 := HS2.out.bblk.cell 0
  have b7 := HS2.out.bblk.cell 7
  have b8 := HS2.out.bblk.cell 8
  have b9 := HS2.out.bblk.cell 9
  have b10 := HS2.out.bblk.cell 10
  have b11 := HS2.out.bblk.cell 11
  have b12 := HS2.out.bblk.cell 12
  unfold cdC at a0 a7 a8 a9 a10 a11 a12 b0 b7 b8 b9 b10 b11 b12
  simp only [List.getElem?_toArray, List.getElem?_cons_zero, List.getElem?_cons_succ] at a0 a7 a8 a9 a10 a11 a12 b0 b7 b8 b9 b10 b11 b12
  by_cases hk : a.kind = b.kind
  case neg =>
    have fk : (a.kind == b.kind) = false := by simpa using hk
    have HF := Lib.hid hk
    clear hk
    go_wp2
    go_ret
    exact ⟨_, rfl, HS2.out.below, false, rfl, ⟨(fun h => by cases h), fun h => absurd h.1 (by first | exact HF.out | (simpa using HF.out))⟩⟩
  have fk : (a.kind == b.kind) = true := by simpa using hk
  have HK := Lib.hid hk
  clear hk
  by_cases hn : a.name = b.name
  case neg =>
    have fn : (a.name == b.name) = false := by simpa using hn
    have HF := Lib.hid hn
    clear hn
    go_wp2
    go_ret
    exact ⟨_, rfl, HS2.out.below, false, rfl, ⟨(fun h => by cases h), fun h => absurd h.2.2.1 (by first | exact HF.out | (simpa using HF.out))⟩⟩
  have fn : (a.name == b.name) = true := by simpa using hn
  have HN := Lib.hid hn
  clear hn
  by_cases hv : a.version = b.version
  case neg =>
    have fv : (a.version == b.version) = false := by simpa using hv
    have HF := Lib.hid hv
    clear hv
    go_wp2
    go_ret
    exact ⟨_, rfl, HS2.out.below, false, rfl, ⟨(fun h => by cases h), fun h => absurd h.2.2.2.1 (by first | exact HF.out | (simpa using HF.out))⟩⟩
  have fv : (a.version == b.version) = true := by simpa using hv
  have HV := Lib.hid hv
  clear hv
  by_cases ht : a.text = b.text
  case neg =>
    have ft : (a.text == b.text) = false := by simpa using ht
    have HF := Lib.hid ht
    clear ht
    go_wp2
    go_ret
    exact ⟨_, rfl, HS2.out.below, false, rfl, ⟨(fun h => by cases h), fun h => absurd h.2.2.2.2.1 (by first | exact HF.out | (simpa using HF.out))⟩⟩
  have ft : (a.text == b.text) = true := by simpa using ht
  have HT := Lib.hid ht
  clear ht
  obtain ⟨r3, hr3⟩ : ∃ r, r = (a.pl == b.pl && a.pu == b.pu) := ⟨_, rfl⟩
  have hpl : ∀ w, (binOp .neq 29 (.agg #[.int .i64 a.pl, .int .i64 a.pu]) (.agg #[.int .i64 b.pl, .int .i64 b.pu])).run Tryz.prog w = .ok (.bool (!r3)) w := fun w => by rw [hr3]; exact neq_place _ _ _ _ w
  have HR3 := Lib.hid hr3
  clear hr3
  cases r3 with
  | false =>
    have HF : Hid (¬ (a.pl = b.pl ∧ a.pu = b.pu)) := Lib.hid (fun h => by have := HR3.out; rw [h.1, h.2] at this; simp at this)
    go_wp2
    go_ret
    exact ⟨_, rfl, HS2.out.below, false, rfl, ⟨(fun h => by cases h), fun h => absurd h.2.2.2.2.2.2.1 (by first | exact HF.out | (simpa using HF.out))⟩⟩
  | true =>
  have HE3 : Hid (a.pl = b.pl ∧ a.pu = b.pu) := Lib.hid (by have := HR3.out.symm; simpa using this)
  obtain ⟨n, hnn⟩ : ∃ n, n = a.changes.length := ⟨_, rfl⟩
  obtain ⟨m, hmm⟩ : ∃ n, n = b.changes.length := ⟨_, rfl⟩
  rw [← hnn] at a10
  rw [← hmm] at b10
  have HNN := Lib.hid hnn
  have HMM := Lib.hid hmm
  have hn1 : n ≤ 1048576 := by rw [hnn]; exact HNA.out
  clear hnn hmm HR3
  by_cases hln : n = m
  case neg =>
    have fl : ((n : Int) == (m : Int)) = false := by simp; omega
    have HF : Hid (a.changes ≠ b.changes) := Lib.hid (fun h => hln (by rw [HNN.out, HMM.out, h]))
    clear hln
    go_wp2
    go_ret
    exact ⟨_, rfl, HS2.out.below, false, rfl, ⟨(fun h => by cases h), fun h => absurd h.2.2.2.2.2.1 (by first | exact HF.out | (simpa using HF.out))⟩⟩
  subst hln
  have fl : ((n : Int) == (n : Int)) = true := by simp
  have HNA2 : Hid (n = a.changes.length ∧ n = b.changes.length) := Lib.hid ⟨HNN.out, HMM.out⟩
  clear HNN HMM HNA
  go_wp2
  clear a0 a7 a8 a9 a10 a11 a12 b0 b7 b8 b9 b10 b11 b12 fk fn fv ft fl hpl
  go_loopw [7] (fun i wr => ∃ k : Nat, k ≤ n ∧ i = .int .i64 k ∧ Hid (a.changes.take k = b.changes.take k) ∧ Hid (SaR w a b wr)) (fun i _ => n - (intOf i).toNat)
  case atStart => exact ⟨0, Nat.zero_le _, rfl, Lib.hid rfl, HS2⟩
  case round =>
    obtain ⟨k, hk, rfl, HQ, HB⟩ := hrel
    have a10 := HB.out.ablk.cell 10
    have b10 := HB.out.bblk.cell 10
    unfold cdC at a10 b10
    simp only [List.getElem?_toArray, List.getElem?_cons_zero, List.getElem?_cons_succ] at a10 b10
    rw [← HNA2.out.1] at a10
    rw [← HNA2.out.2] at b10
    by_cases hlt : k < n
    · obtain ⟨x, hx⟩ := get_some (l := a.changes) (i := k) (by rw [← HNA2.out.1]; exact hlt)
      obtain ⟨y, hy⟩ := get_some (l := b.changes) (i := k) (by rw [← HNA2.out.2]; exact hlt)
      have HX := Lib.hid hx
      have HY := Lib.hid hy
      obtain ⟨b1, o1, e1, p0, p1, p2, p3, p4, p5⟩ := edit_at HB.out.aat.row hx
      obtain ⟨b2, o2, e2, d0, d1, d2, d3, d4, d5⟩ := edit_at HB.out.bat.row hy
      rw [e1] at a10
      rw [e2] at b10
      have hi0 : (0 : Int) ≤ (k : Int) := by omega
      have hi1 : (k : Int) < (n : Int) := by omega
      obtain ⟨q, he⟩ : ∃ e, e = edB x y := ⟨_, rfl⟩
      have hne : ∀ w, (binOp .neq 71 (.agg #[.int .i64 x.fl, .int .i64 x.fu, .int .i64 x.tl, .int .i64 x.tu, .string ⟨x.text.toArray⟩, .bool x.whole]) (.agg #[.int .i64 y.fl, .int .i64 y.fu, .int .i64 y.tl, .int .i64 y.tu, .string ⟨y.text.toArray⟩, .bool y.whole])).run Tryz.prog w = .ok (.bool (!q)) w := fun w => by rw [he]; exact neq_editR x y w
      have HE := Lib.hid he
      clear hx hy he e1 e2
      go_wp2_with fail
      cases q with
      | true =>
        go_quiet (fail)
        go_wp2
        go_roundw
        case rel => exact ⟨k + 1, by omega, by go_num, Lib.hid (eqEs_step HQ.out HX.out HY.out HE.out.symm), Lib.hid (HB.out.ext (below_drew (Below.refl _ _) _))⟩
        case measure => simp [intOf]; omega
      | false =>
        have HF : Hid (a.changes ≠ b.changes) := Lib.hid (fun h => by have := eqEs_no HX.out HY.out HE.out.symm; rw [(eqEs_iff _ _).2 h] at this; cases this)
        go_quiet (fail)
        go_wp2
        go_ret
        exact ⟨_, rfl, below_drew HB.out.below _, false, rfl, ⟨(fun h => by cases h), fun h => absurd h.2.2.2.2.2.1 (by first | exact HF.out | (simpa using HF.out))⟩⟩
    · have hkn : k = n := by omega
      have HF : Hid (a.changes = b.changes) := Lib.hid (by have := HQ.out; rw [List.take_of_length_le (by rw [← HNA2.out.1]; omega), List.take_of_length_le (by rw [← HNA2.out.2]; omega)] at this; exact this)
      clear hkn
      go_wp2
      go_ret
      exact ⟨_, rfl, HB.out.below, true, rfl, ⟨fun _ => ⟨HK.out, HE1.out, HN.out, HV.out, HT.out, HF.out, HE3.out, HE2.out⟩, fun _ => rfl⟩⟩
end Go.Proofs.YthnbeebilomchaaGreatDoor

namespace Go.Proofs.YthnbeebilomchaaGreatDoor
open Go Go.RowKit

/-- changes, and their texts -/
def chN (l : List E) : Nat := (l.map fun e => 1 + e.text.length).sum
def bulkC (c : CD) : Nat := sizeV c.id.v + sizeV c.other.v + (c.name.length + c.text.length) + chN c.changes
theorem chN_snoc {l : List E} {k : Nat} {x : E} (hx : l[k]? = some x) : chN (l.take (k + 1)) = chN (l.take k) + (1 + x.text.length) := by
  unfold chN
  rw [take_snoc1 hx, List.map_append, List.sum_append]
  simp
theorem chN_mem {l : List E} {x : E} (hx : x ∈ l) : 1 + x.text.length ≤ chN l := by
  unfold chN
  induction l with
  | nil => cases hx
  | cons y l ih =>
    simp only [List.map_cons, List.sum_cons]
    rcases List.mem_cons.1 hx with rfl | h
    · omega
    · have := ih h; omega
theorem chN_len (l : List E) : l.length ≤ chN l := by
  unfold chN
  induction l with
  | nil => simp
  | cons y l ih => simp only [List.map_cons, List.sum_cons, List.length_cons]; omega
/-- small: no more than 400 of each -/
def SmallC (c : CD) : Prop := c.name.length + c.text.length + chN c.changes ≤ 400 ∧ sizeV c.id.v ≤ 400 ∧ sizeV c.other.v ≤ 400
def SmaE (w : World) (c : CD) (e : Ending) (w' : World) : Prop := ∃ b : Bool, e = .returned (.bool b) ∧ (b = true → SmallC c) ∧ Below w.heap.size w w'
structure SmS (w : World) (c : CD) (W : World) : Prop where
  below : Below w.heap.size w W
  ablk : Blk W w.heap.size (cdC c) 31
  aat : CallAt W c
theorem SmS.ext {w : World} {c : CD} {W W' : World} (h : SmS w c W) (hb : Below W.heap.size W W') : SmS w c W' := ⟨h.below.trans (hb.mono h.below.size), h.ablk.ext hb, h.aat.ext hb⟩
set_option maxHeartbeats 8000000 in
set_option maxRecDepth 20000 in
theorem small_any (c : CD) (w : World) (hc : CallAt w c) (hs : bulkC c ≤ 1048576) : Calls Tryz.prog 6 #[.agg (cdC c)] w (SmaE w c) := by
  obtain ⟨W0, hW0⟩ : ∃ W0, W0 = w.alloc (.cells (cdC c) 31) := ⟨_, rfl⟩
  have hb0 : Below w.heap.size w W0 := by rw [hW0]; exact below_a1 _ _
  have HS0 : Hid (SmS w c W0) := Lib.hid ⟨hb0, by rw [hW0]; exact Blk.new rfl, hc.ext hb0⟩
  have HBU := Lib.hid hs
  clear hc hs hb0
  go_enter Tryz.func6, Tryz.ntmps6
  go_upto_region 1 with (fail)
  rw [← hW0]
  clear hW0
  obtain ⟨nc, hnc⟩ : ∃ n, n = c.changes.length := ⟨_, rfl⟩
  have HNC := Lib.hid hnc
  have h7 := HS0.out.ablk.cell 7
  have h9 := HS0.out.ablk.cell 9
  unfold cdC at h7 h9
  simp only [List.getElem?_toArray, List.getElem?_cons_zero, List.getElem?_cons_succ] at h7 h9
  have bn : c.name.length ≤ 1048576 := by have := HBU.out; unfold bulkC at this; omega
  have bt : c.text.length ≤ 1048576 := by have := HBU.out; unfold bulkC at this; omega
  have bc : nc ≤ 1048576 := by have := HBU.out; unfold bulkC at this; have := chN_len c.changes; omega
  clear hnc
  go_wp2_with fail
  go_loopw [3, 4] (fun a i wr => ∃ (k m : Nat), k ≤ nc ∧ i = .int .i64 k ∧ a = .int .i64 m ∧ m ≤ 4194304 ∧ Hid (m = c.name.length + c.text.length + chN (c.changes.take k)) ∧ Hid (SmS w c wr)) (fun _ i _ => nc - (intOf i).toNat)
  case atStart => exact ⟨0, c.name.length + c.text.length, Nat.zero_le _, rfl, by go_num, by omega, Lib.hid (by simp [chN]), HS0⟩
  case round =>
    obtain ⟨k, m, hk, rfl, rfl, hm, HM, HL⟩ := hrel
    clear h7 h9
    have h10 := HL.out.ablk.cell 10
    unfold cdC at h10
    simp only [List.getElem?_toArray, List.getElem?_cons_zero, List.getElem?_cons_succ] at h10
    rw [← HNC.out] at h10
    by_cases hlt : k < nc
    · by_cases hsm : m ≤ 400
      · obtain ⟨x, hx⟩ := get_some (l := c.changes) (by rw [← HNC.out]; exact hlt)
        have HX := Lib.hid hx
        obtain ⟨b, off, hab, q0, q1, q2, q3, q4, q5⟩ := edit_at HL.out.aat.row hx
        rw [hab] at h10
        have bx : x.text.length ≤ 1048576 := by have := HBU.out; unfold bulkC at this; have := chN_mem (List.mem_of_getElem? hx); omega
        clear hx hab
        go_wp2_with fail
        go_roundw
        case rel => exact ⟨k + 1, m + 1 + x.text.length, by omega, by go_num, by go_num, by omega, Lib.hid (by rw [chN_snoc HX.out, HM.out]; omega), HL⟩
        case measure => simp [intOf]; omega
      · go_wp2
        go_ret
        exact ⟨false, rfl, (fun h => by cases h), HL.out.below⟩
    · have hkn : k = nc := by omega
      subst hkn
      by_cases hsm : m ≤ 400
      · have HMM : Hid (c.name.length + c.text.length + chN c.changes ≤ 400) := Lib.hid (by
          have := HM.out
          rw [HNC.out, List.take_length] at this
          omega)
        have HSI : Hid (sizeV c.id.v ≤ 1048576 ∧ sizeV c.other.v ≤ 1048576) := Lib.hid (by have := HBU.out; unfold bulkC at this; omega)
        clear HM
        have c1 := HL.out.ablk.cell 1
        have c2 := HL.out.ablk.cell 2
        have c3 := HL.out.ablk.cell 3
        have c4 := HL.out.ablk.cell 4
        have c5 := HL.out.ablk.cell 5
        have c6 := HL.out.ablk.cell 6
        unfold cdC at c1 c2 c3 c4 c5 c6
        simp only [List.getElem?_toArray, List.getElem?_cons_zero, List.getElem?_cons_succ] at c1 c2 c3 c4 c5 c6
        have h1 := size_any c.id wr HL.out.aat.id HSI.out.1
        rw [VD.val6] at h1
        have H1 := Lib.hid h1
        clear h1
        go_wp2_with fail
        refine H1.out.mono ?_
        clear H1 c1 c2 c3 c4 c5 c6 h10
        rintro e w1 ⟨m1, rfl, hm1, hm2, hb⟩
        have HL1 := Lib.hid (HL.out.ext hb)
        have HZ1 := Lib.hid hm2
        have hz1 : m1 ≤ 1048576 := Nat.le_trans hm1 HSI.out.1
        clear hb hm1 hm2 HL
        have HL := HL1
        clear HL1
        by_cases hs1 : m1 ≤ 400
        case neg =>
          go_wp2
          go_ret
          exact ⟨false, rfl, (fun h => by cases h), HL.out.below⟩
        have HE1 : Hid (sizeV c.id.v ≤ 400) := Lib.hid (by rw [← HZ1.out hs1]; exact hs1)
        have c13 := HL.out.ablk.cell 13
        have c14 := HL.out.ablk.cell 14
        have c15 := HL.out.ablk.cell 15
        have c16 := HL.out.ablk.cell 16
        have c17 := HL.out.ablk.cell 17
        have c18 := HL.out.ablk.cell 18
        unfold cdC at c13 c14 c15 c16 c17 c18
        simp only [List.getElem?_toArray, List.getElem?_cons_zero, List.getElem?_cons_succ] at c13 c14 c15 c16 c17 c18
        have h1 := size_any c.other w1 HL.out.aat.other HSI.out.2
        rw [VD.val6] at h1
        have H1 := Lib.hid h1
        clear h1
        go_wp2_with fail
        refine H1.out.mono ?_
        clear H1 c13 c14 c15 c16 c17 c18 
        rintro e w2 ⟨m2, rfl, hm1, hm2, hb⟩
        have HL2 := Lib.hid (HL.out.ext hb)
        have HZ2 := Lib.hid hm2
        have hz2 : m2 ≤ 1048576 := Nat.le_trans hm1 HSI.out.2
        clear hb hm1 hm2 HL
        have HL := HL2
        clear HL2
        go_wp2
        go_ret
        exact ⟨decide ((m2 : Int) ≤ 400), rfl, (fun h => ⟨HMM.out, HE1.out, by have h1 : m2 ≤ 400 := by { have := of_decide_eq_true h; omega }; rw [← HZ2.out h1]; exact h1⟩), HL.out.below⟩
      · go_wp2
        go_ret
        exact ⟨false, rfl, (fun h => by cases h), HL.out.below⟩
/-! ### sizes -/
theorem size_edit (e : E) : sizeV (editW e) ≤ 60 + e.text.length := by
  obtain ⟨a, b, c, d, t, w⟩ := e
  cases w <;>
  (simp [editW, atW, recW, strW, numW, kText, kRange, kStart, kEnd, kLine, kChar, sizeV, sizesV]
   try omega)
theorem size_edits : ∀ l : List E, sizesV (l.map editW) ≤ 60 * chN l
  | [] => by simp [sizesV]
  | e :: l => by
    have h1 := size_edit e
    have h2 := size_edits l
    simp only [List.map_cons, sizesV, chN, List.sum_cons] at h1 h2 ⊢
    omega
end Go.Proofs.YthnbeebilomchaaGreatDoor

namespace Go.Proofs.YthnbeebilomchaaGreatDoor
open Go Go.RowKit Go.ChangeAt Go.ChangeShapes Go.WideShapes Go.Deep Go.Joins

theorem Tryz.cellsPlace : Tryz.prog.cellsOf 29 = 2 := by kernel_rfl
theorem Tryz.cellsApiEdit : Tryz.prog.cellsOf 69 = 5 := by kernel_rfl
theorem Tryz.cellsDocEdit : Tryz.prog.cellsOf 71 = 6 := by kernel_rfl
theorem Tryz.cellsDocCall : Tryz.prog.cellsOf 31 = 19 := by kernel_rfl
theorem Tryz.cellsDocEdits : Tryz.prog.cellsOf 27 = 1 := by kernel_rfl
theorem list2 {α : Type} {cs : List α} (h : cs.length = 2) : ∃ a b, cs = [a, b] := by
  match cs, h with
  | [a, b], _ => exact ⟨a, b, rfl⟩
theorem list3 {α : Type} {cs : List α} (h : cs.length = 3) : ∃ a b c, cs = [a, b, c] := by
  match cs, h with
  | [a, b, c], _ => exact ⟨a, b, c, rfl⟩
theorem list5 {α : Type} {cs : List α} (h : cs.length = 5) : ∃ a b c d e, cs = [a, b, c, d, e] := by
  match cs, h with
  | [a, b, c, d, e], _ => exact ⟨a, b, c, d, e, rfl⟩
theorem list8 {α : Type} {cs : List α} (h : cs.length = 8) : ∃ a b c d e f g k, cs = [a, b, c, d, e, f, g, k] := by
  match cs, h with
  | [a, b, c, d, e, f, g, k], _ => exact ⟨a, b, c, d, e, f, g, k, rfl⟩
theorem list19 {α : Type} {cs : List α} (h : cs.length = 19) : ∃ a0 a1 a2 a3 a4 a5 a6 a7 a8 a9 a10 a11 a12 a13 a14 a15 a16 a17 a18, cs = [a0, a1, a2, a3, a4, a5, a6, a7, a8, a9, a10, a11, a12, a13, a14, a15, a16, a17, a18] := by
  match cs, h with
  | [a0, a1, a2, a3, a4, a5, a6, a7, a8, a9, a10, a11, a12, a13, a14, a15, a16, a17, a18], _ => exact ⟨a0, a1, a2, a3, a4, a5, a6, a7, a8, a9, a10, a11, a12, a13, a14, a15, a16, a17, a18, rfl⟩
section
variable {H : Type} {enc : TypeId × Value → H} {w : World} {base : Nat} {spare : Nat → Bool} {held : Bool}
theorem open_place {n : Nat} {cs : List Value} {y : DataW H × List MemPlace} (h : DataW.trod enc Tryz.prog w base spare held n 29 cs = some y) : ∃ a b : Int, cs = [.int .i64 a, .int .i64 b] := by
  obtain ⟨xs, n', -, hy, hl, hn, hf⟩ := DataW.trod_struct Tryz.underlying29 h
  rw [Tryz.cellsPlace] at hl
  obtain ⟨c0, c1, rfl⟩ := list2 hl
  obtain ⟨y0, y1, rfl⟩ := list2 hn
  have h0 := hf 0 _ rfl
  have h1 := hf 1 _ rfl
  simp [Tryz.cellsInt1] at h0 h1
  obtain ⟨a, ha, -, -⟩ := DataW.trod_int Tryz.underlying3 h0
  obtain ⟨b, hb, -, -⟩ := DataW.trod_int Tryz.underlying3 h1
  simp only [List.cons.injEq, and_true] at ha hb
  exact ⟨a, b, by rw [ha, hb]⟩
theorem open_apiEdit {n : Nat} {cs : List Value} {y : DataW H × List MemPlace} (h : DataW.trod enc Tryz.prog w base spare held n 69 cs = some y) : ∃ (a b c d : Int) (t : Nm), cs = [.int .i64 a, .int .i64 b, .int .i64 c, .int .i64 d, strV t] ∧ t.length + 1 ≤ Rows.uptoBulk y.1 := by
  obtain ⟨xs, n', -, hy, hl, hn, hf⟩ := DataW.trod_struct Tryz.underlying69 h
  rw [Tryz.cellsApiEdit] at hl
  obtain ⟨c0, c1, c2, c3, c4, rfl⟩ := list5 hl
  obtain ⟨y0, y1, y2, rfl⟩ := list3 hn
  have h0 := hf 0 _ rfl
  have h1 := hf 1 _ rfl
  have h2 := hf 2 _ rfl
  simp [Tryz.cellsPlace, Tryz.cells1String] at h0 h1 h2
  obtain ⟨a, b, hab⟩ := open_place h0
  obtain ⟨c, d, hcd⟩ := open_place h1
  obtain ⟨t, ht, htl⟩ := string_formB _ _ _ h2
  simp only [List.cons.injEq, and_true] at hab hcd ht
  obtain ⟨rfl, rfl⟩ := hab
  obtain ⟨rfl, rfl⟩ := hcd
  subst ht
  refine ⟨a, b, c, d, t, rfl, ?_⟩
  rw [hy]
  simp only [List.map_cons, List.map_nil, Rows.uptoBulk, Rows.uptoBulkAll]
  omega
theorem open_edit (n : Nat) (cs : List Value) (y : DataW H × List MemPlace) (h : DataW.trod enc Tryz.prog w base spare held n 71 cs = some y) : ∃ e : E, cs = e.cells ∧ 1 + e.text.length ≤ Rows.uptoBulk y.1 := by
  obtain ⟨xs, n', -, hy, hl, hn, hf⟩ := DataW.trod_struct Tryz.underlying71 h
  rw [Tryz.cellsDocEdit] at hl
  obtain ⟨c0, c1, c2, c3, c4, c5, rfl⟩ := list6 hl
  obtain ⟨y0, y1, rfl⟩ := list2 hn
  have h0 := hf 0 _ rfl
  have h1 := hf 1 _ rfl
  simp [Tryz.cellsApiEdit, Tryz.cellsBool] at h0 h1
  obtain ⟨a, b, c, d, t, he, ht⟩ := open_apiEdit h0
  obtain ⟨on, hon, -, -⟩ := DataW.trod_bool Tryz.underlying4 h1
  simp only [List.cons.injEq, and_true] at he hon
  obtain ⟨rfl, rfl, rfl, rfl, rfl⟩ := he
  subst hon
  refine ⟨⟨a, b, c, d, t, on⟩, rfl, ?_⟩
  rw [hy]
  simp only [List.map_cons, List.map_nil, Rows.uptoBulk, Rows.uptoBulkAll]
  omega
theorem edits_bulk {n : Nat} {X : Nat → E} {D : Nat → DataW H} (h : ∀ i, i < n → 1 + (X i).text.length ≤ Rows.uptoBulk (D i)) : chN ((List.range n).map X) ≤ Rows.uptoBulkAll ((List.range n).map D) := by
  induction n with
  | zero => simp [chN]
  | succ n ih =>
    rw [List.range_succ, List.map_append, List.map_append, bulk_app]
    have h1 := ih fun i hi => h i (by omega)
    have h2 := h n (Nat.lt_succ_self n)
    unfold chN at h1 ⊢
    rw [List.map_append, List.sum_append]
    simp only [List.map_cons, List.map_nil, Rows.uptoBulkAll, List.sum_cons, List.sum_nil]; omega
/-- a call that comes in -/
theorem open_call (n : Nat) (cs : List Value) (y : DataW H × List MemPlace) (h : DataW.trod enc Tryz.prog w base spare held n 31 cs = some y) : ∃ x : CD, cs = (cdC x).toList ∧ CallAt w x ∧ bulkC x ≤ Rows.uptoBulk y.1 := by
  obtain ⟨xs, n', -, hy, hl, hn, hf⟩ := DataW.trod_struct Tryz.underlying31 h
  rw [Tryz.cellsDocCall] at hl
  obtain ⟨a0, a1, a2, a3, a4, a5, a6, a7, a8, a9, a10, a11, a12, a13, a14, a15, a16, a17, a18, rfl⟩ := list19 hl
  obtain ⟨y0, y1, y2, y3, y4, y5, y6, y7, rfl⟩ := list8 hn
  have h0 := hf 0 _ rfl
  have h1 := hf 1 _ rfl
  have h2 := hf 2 _ rfl
  have h3 := hf 3 _ rfl
  have h4 := hf 4 _ rfl
  have h5 := hf 5 _ rfl
  have h6 := hf 6 _ rfl
  have h7 := hf 7 _ rfl
  simp [Tryz.cells1String, Tryz.cellsInt1, Tryz.cellsDoc, Tryz.cellsPlace, Tryz.cellsDocEdits] at h0 h1 h2 h3 h4 h5 h6 h7
  obtain ⟨kd, hk, -, -⟩ := DataW.trod_int Tryz.underlying3 h0
  obtain ⟨i, hi, hiv, hiw⟩ := open_doc _ _ _ h1
  obtain ⟨nm, hnm, hnw⟩ := string_formB _ _ _ h2
  obtain ⟨vs, hvs, -, -⟩ := DataW.trod_int Tryz.underlying3 h3
  obtain ⟨tx, htx, htw⟩ := string_formB _ _ _ h4
  obtain ⟨a, l, cap, X, D, hv, hr, hX, hD, hw⟩ := open_rowB E.cells 6 (by decide) E.len Tryz.underlying27 Tryz.cellsDocEdit (fun e d => 1 + e.text.length ≤ Rows.uptoBulk d) open_edit h5
  obtain ⟨pl, pu, hp⟩ := open_place h6
  obtain ⟨o, ho, hov, how⟩ := open_doc _ _ _ h7
  simp only [List.cons.injEq, and_true] at hk hnm hvs htx hp
  obtain ⟨rfl, rfl⟩ := hp
  subst hk hnm hvs htx hv
  rw [val_list] at hi ho
  simp only [List.cons.injEq, and_true] at hi ho
  obtain ⟨rfl, rfl, rfl, rfl, rfl, rfl⟩ := hi
  obtain ⟨rfl, rfl, rfl, rfl, rfl, rfl⟩ := ho
  have h8 := edits_bulk (n := l.length) (X := X) (D := D) hD
  rw [← hX] at h8
  refine ⟨⟨kd, i, nm, vs, tx, a, cap, l, pl, pu, o⟩, rfl, ⟨hiv, hov, hr⟩, ?_⟩
  rw [hy]
  simp only [bulkC, List.map_cons, List.map_nil, Rows.uptoBulk, Rows.uptoBulkAll]
  omega
end
end Go.Proofs.YthnbeebilomchaaGreatDoor

namespace Go.Proofs.YthnbeebilomchaaGreatDoor
open Go Go.RowKit

theorem text_len (v : V) : v.text.length + 1 ≤ sizeV v := by
  obtain ⟨s, o, n, t, l, ks⟩ := v
  simp only [V.text, sizeV]
  omega
theorem gText_size {v : V} {p : List Nm} {s : Nm} (h : gText v p = some s) : s.length + 1 ≤ sizeV v := by
  unfold gText at h
  cases hg : getV v p with
  | none => rw [hg] at h; cases h
  | some y =>
    rw [hg, Option.bind_some] at h
    split at h
    · cases h
      have h1 := text_len y
      have h2 := getV_size p hg
      omega
    · cases h
theorem chL_size {v : V} {e : E} (h : chL v = some e) : 1 + e.text.length ≤ sizeV v := by
  unfold chL at h
  cases ht : gText v [kText] with
  | none => rw [ht] at h; cases h
  | some t =>
    rw [ht, Option.bind_some] at h
    have h1 := gText_size ht
    cases hr : getV v [kRange] with
    | none => rw [hr] at h; cases h; show 1 + t.length ≤ _; omega
    | some r =>
      rw [hr] at h
      simp only at h
      cases ha : gPlace v [kRange, kStart] with
      | none => rw [ha] at h; cases h
      | some a =>
        rw [ha, Option.bind_some] at h
        cases hb : gPlace v [kRange, kEnd] with
        | none => rw [hb] at h; cases h
        | some b => rw [hb] at h; cases h; show 1 + t.length ≤ _; omega
theorem chsL_size : ∀ {l : List V} {m : List E}, chsL l = some m → chN m ≤ sizesV l
  | [], m, h => by rw [chsL] at h; cases h; simp [chN]
  | v :: l, m, h => by
    rw [chsL] at h
    cases ha : chL v with
    | none => rw [ha] at h; cases h
    | some e =>
      rw [ha, Option.bind_some] at h
      cases hb : chsL l with
      | none => rw [hb] at h; cases h
      | some m' =>
        rw [hb] at h
        cases h
        have h1 := chL_size ha
        have h2 := chsL_size hb
        simp only [chN, List.map_cons, List.sum_cons, sizesV] at h2 ⊢
        omega
theorem lists_size (v : V) : sizesV v.list ≤ sizeV v := by
  obtain ⟨s, o, n, t, l, ks⟩ := v
  simp only [V.list, sizeV]
  omega
/-- what is told is no greater than what it is read of -/
theorem tell_bulk {k : Nat} {x p : V} {y : C} (h : tellL k x p = some y) : y.name.length ≤ sizeV p ∧ y.text.length ≤ sizeV p ∧ chN y.changes ≤ sizeV p := by
  have h0 : ([] : Nm).length ≤ sizeV p := Nat.zero_le _
  have h1 : chN [] ≤ sizeV p := Nat.zero_le _
  unfold tellL at h
  split at h
  · cases h; exact ⟨h0, h0, h1⟩
  split at h
  · split at h
    · split at h
      · cases h; exact ⟨h0, h0, h1⟩
      · cases h
    · cases h
  cases hn : gText p [kDoc, kUri] with
  | none => rw [hn] at h; cases h
  | some name =>
    rw [hn, Option.bind_some] at h
    have hn1 : name.length ≤ sizeV p := by have := gText_size hn; omega
    split at h
    · cases ha : gNum p [kDoc, kVersion] with
      | none => rw [ha] at h; cases h
      | some a =>
        rw [ha, Option.bind_some] at h
        cases hb : gText p [kDoc, kText] with
        | none => rw [hb] at h; cases h
        | some b => rw [hb] at h; cases h; exact ⟨hn1, by have := gText_size hb; show b.length ≤ _; omega, h1⟩
    split at h
    · cases ha : gNum p [kDoc, kVersion] with
      | none => rw [ha] at h; cases h
      | some a =>
        rw [ha, Option.bind_some, gList_S] at h
        cases hg : getS p 4 [kChanges] with
        | none => rw [hg] at h; cases h
        | some z =>
          rw [hg, Option.map_some, Option.bind_some] at h
          cases hb : chsL z.list with
          | none => rw [hb] at h; cases h
          | some b =>
            rw [hb] at h; cases h
            refine ⟨hn1, h0, ?_⟩
            show chN b ≤ _
            have h2 := getS_size (v := p) (s := 4) (p := [kChanges])
            rw [hg] at h2
            exact Nat.le_trans (chsL_size hb) (Nat.le_trans (lists_size z) h2)
    split at h
    · cases ha : gPlace p [kPosition] with
      | none => rw [ha] at h; cases h
      | some a => rw [ha] at h; cases h; exact ⟨hn1, h0, h1⟩
    · cases h; exact ⟨hn1, h0, h1⟩
theorem readC_bulk {v : V} {y : C} (h : readC v = (0, y)) : y.name.length ≤ sizeV v ∧ y.text.length ≤ sizeV v ∧ chN y.changes ≤ sizeV v := by
  unfold readC at h
  split at h
  · split at h
    · cases h
    · split at h
      · cases h
      · split at h
        · cases h
        · split at h
          · cases h
          · rename_i c' ht
            cases h
            obtain ⟨h1, h2, h3⟩ := tell_bulk ht
            have hp := getD_size v [kParams]
            exact ⟨Nat.le_trans h1 hp, Nat.le_trans h2 hp, Nat.le_trans h3 hp⟩
  · cases h
theorem method_len (k : Nat) : (methodN k).length ≤ 40 := by
  have hall : ∀ l ∈ methodL, l.length ≤ 40 := by decide
  unfold methodN
  rw [List.getD_eq_getElem?_getD]
  cases h : methodL[k]? with
  | none => exact Nat.zero_le _
  | some l => exact hall l (List.mem_of_getElem? h)
theorem size_params (c : C) : sizeV (paramsW c) ≤ 1000 + sizeV c.other + c.name.length + c.text.length + 60 * chN c.changes := by
  have hl := size_edits c.changes
  unfold paramsW
  split
  · simp [recW, sizeV, sizesV, kId]; omega
  · split
    · rename_i h4
      rw [h4]
      simp [recW, strW, numW, sizeV, sizesV, kDoc, kUri, kVersion, kText]
      omega
    · split
      · simp [recW, strW, numW, listW, sizeV, sizesV, kDoc, kUri, kVersion, kChanges] at hl ⊢
        omega
      · split
        · simp [recW, strW, numW, atW, sizeV, sizesV, kDoc, kUri, kPosition, kLine, kChar]
          omega
        · simp [recW, strW, sizeV, sizesV, kDoc, kUri]
          omega
theorem size_msg (c : C) : sizeV (msgW c) ≤ 2000 + sizeV c.id + sizeV c.other + c.name.length + c.text.length + 60 * chN c.changes := by
  have hp := size_params c
  have hm := method_len c.kind
  unfold msgW
  split <;> split <;> (simp [recW, strW, sizeV, sizesV, kJson, kId, kMethod, kParams, v20] <;> omega)
end Go.Proofs.YthnbeebilomchaaGreatDoor

namespace Go.Proofs.YthnbeebilomchaaGreatDoor
open Go Go.RowKit

structure RcB (w W : World) (c : CD) (f : VD) : Prop where
  one : Blk W w.heap.size (cdC c) 31
  two : Blk W (w.heap.size + 1) #[.int .i64 f.sort, .bool f.on, .int .i64 f.n, .string ⟨f.text.toArray⟩, .slice f.a f.list.length f.c, .slice f.ka f.keys.length f.kc] 26
  glob : Glob W
  cat : CallAt W c
  vb : ValAt W (fun _ => True) f
  below : Below w.heap.size w W
theorem RcB.ext {w W W' : World} {c : CD} {f : VD} (h : RcB w W c f) (hb : Below W.heap.size W W') : RcB w W' c f :=
  ⟨h.one.ext hb, h.two.ext hb, h.glob.ext hb, h.cat.ext hb, h.vb.ext hb, h.below.trans (hb.mono h.below.size)⟩
/-- a call in its box -/
structure CX (W : World) (g : Nat) (c : CD) (y : C) : Prop where
  blk : Blk W g (cdC c) 43
  cat : CallAt W c
  k : c.k = y
  pos : 0 ≤ c.kind
theorem CX.ext {W W' : World} {g : Nat} {c : CD} {y : C} (h : CX W g c y) (hb : Below W.heap.size W W') : CX W' g c y := ⟨h.blk.ext hb, h.cat.ext hb, h.k, h.pos⟩
/-- a copy of a call that is to be compared -/
structure CY (W : World) (c : CD) (y : C) : Prop where
  cat : CallAt W c
  k : c.k = y
  pos : 0 ≤ c.kind
theorem CY.ext {W W' : World} {c : CD} {y : C} (h : CY W c y) (hb : Below W.heap.size W W') : CY W' c y := ⟨h.cat.ext hb, h.k, h.pos⟩
theorem exec_load_call {ρ : Operand → Value} {o : Oper} {x : Operand} (ho : o.op = .load 43 x) {g : Nat} (hx : ρ x = .pointer (some ⟨g, 0, none⟩)) {c : CD} {w : World} (hg : Blk w g (cdC c) 43) : (execOp ρ o).run Tryz.prog w = .ok (.value (.agg (cdC c))) w := by
  obtain ⟨fs, h1⟩ := call_under
  unfold execOp
  simp only [ho, hx, Instr.loadAt, Instr.sureAddr, Sem.run_bind, Sem.run_pure, Result.andThen_ok, run_loadVar_row w g _ _ _ _ _ hg h1 rfl call_size]
theorem exec_load_doc {ρ : Operand → Value} {o : Oper} {x : Operand} (ho : o.op = .load 31 x) {g : Nat} (hx : ρ x = .pointer (some ⟨g, 0, none⟩)) {c : CD} {w : World} (hg : Blk w g (cdC c) 31) : (execOp ρ o).run Tryz.prog w = .ok (.value (.agg (cdC c))) w := by
  obtain ⟨fs, h1⟩ := docCall_under
  unfold execOp
  simp only [ho, hx, Instr.loadAt, Instr.sureAddr, Sem.run_bind, Sem.run_pure, Result.andThen_ok, run_loadVar_row w g _ _ _ _ _ hg h1 rfl docCall_size]
theorem ofU_any {W : World} {d : VD} (h : ValAt W (fun _ => True) d) (hz : sizeV d.v ≤ 1048576) : Calls Tryz.prog 15 #[.agg #[.int .i64 d.sort, .bool d.on, .int .i64 d.n, .string ⟨d.text.toArray⟩, .slice d.a d.list.length d.c, .slice d.ka d.keys.length d.kc]] W (DocE W d.v) := by
  have h1 := of_any d W.heap.size W (Nat.le_refl _) (h.mono fun _ _ h => h) hz
  rw [VD.val6] at h1
  refine h1.mono ?_
  rintro e w' ⟨y, rfl, hv, ha, hb⟩
  exact ⟨y, rfl, hv, ha.mono fun _ _ _ => trivial, hb⟩
theorem small_msg {c : CD} (h : SmallC c) : sizeV (msgW c.k) ≤ 27000 := by
  have h1 := size_msg c.k
  obtain ⟨h2, h3, h4⟩ := h
  have e1 : sizeV c.k.id = sizeV c.id.v := rfl
  have e2 : sizeV c.k.other = sizeV c.other.v := rfl
  have e3 : c.k.name = c.name := rfl
  have e4 : c.k.text = c.text := rfl
  have e5 : c.k.changes = c.changes := rfl
  rw [e1, e2, e3, e4, e5] at h1
  omega
theorem copC_size {c c' : CD} (h : CopC c c') (hl : c'.changes = c.changes) (hs : SmallC c) : sizeV (msgW c'.k) ≤ 1048576 ∧ sizeV c'.id.v ≤ 1048576 ∧ sizeV c'.other.v ≤ 1048576 ∧ c'.changes.length ≤ 1048576 := by
  have h1 := small_msg hs
  obtain ⟨h2, h3, h4⟩ := hs
  have h5 := chN_len c.changes
  refine ⟨by rw [copC_k h hl]; omega, by rw [h.2.1]; omega, by rw [h.2.2.2.2.2.2.2]; omega, by rw [hl]; omega⟩
theorem wr_iff {c c' : CD} (h : CopC c c') (hl : c'.changes = c.changes) (hw : wrOk c') : readC (msgW c.k) = (0, c.k) ∧ 1 ≤ c.kind := by
  rw [← copC_k h hl, ← h.1]
  exact ⟨hw.2.2, hw.1⟩
theorem same_true {w : World} {a b : CD} {y : C} (ha : a.k = y) (hb : b.k = y) (pa : 0 ≤ a.kind) (pb : 0 ≤ b.kind) {e : Ending} {w' : World} (h : Ret w (IsB (SameP a b)) e w') : e = .returned (.bool true) ∧ Below w.heap.size w w' := by
  obtain ⟨u, rfl, hb1, q, rfl, hq⟩ := h
  obtain rfl : q = true := hq.2 ((same_k pa pb).2 (by rw [ha, hb]))
  exact ⟨rfl, hb1⟩
theorem cy_sizes {c : CD} {y : C} {n : Nat} (h : c.k = y) (h1 : sizeV y.id ≤ n) (h2 : sizeV y.other ≤ n) (h3 : y.changes.length ≤ n) : sizeV c.id.v ≤ n ∧ sizeV c.other.v ≤ n ∧ c.changes.length ≤ n := by
  subst h; exact ⟨h1, h2, h3⟩
theorem read_wr {v : V} {c : CD} {y : C} (h : readC v = (0, y)) (hk : c.k = y) (hp : 0 ≤ c.kind) : wrOk c := by
  have ht := readC_told h
  refine ⟨?_, ?_, by rw [hk]; exact told_back ht⟩
  · have := ht.k1; rw [← hk] at this; change 1 ≤ c.kind.toNat at this; omega
  · have := ht.k9; rw [← hk] at this; change c.kind.toNat ≤ 9 at this; omega
theorem read_sizes {v : V} {y : C} (h : readC v = (0, y)) (hv : sizeV v ≤ 400) : sizeV (msgW y) ≤ 1048576 ∧ sizeV y.id ≤ 1048576 ∧ sizeV y.other ≤ 1048576 ∧ y.changes.length ≤ 1048576 := by
  obtain ⟨h1, h2, h3⟩ := readC_size h
  obtain ⟨h4, h5, h6⟩ := readC_bulk h
  have h7 := size_msg y
  exact ⟨by omega, by omega, by omega, by omega⟩
theorem nil_read : readL [] = .err 21 := by kernel_rfl
set_option maxHeartbeats 16000000 in
set_option maxRecDepth 20000 in
theorem backC_any (c : CD) (f : VD) (w : World) (hG : Glob w) (hc : CallAt w c) (hf : ValAt w (fun _ => True) f) (hcs : bulkC c ≤ 1048576) (hfs : sizeV f.v ≤ 1048576) : Calls Tryz.prog 5 #[c.val, f.val] w (BoE w true) := by
  obtain ⟨W1, hW1⟩ : ∃ q, q = (w.alloc (.cells (cdC c) 31)).alloc (.cells #[.int .i64 f.sort, .bool f.on, .int .i64 f.n, .string ⟨f.text.toArray⟩, .slice f.a f.list.length f.c, .slice f.ka f.keys.length f.kc] 26) := ⟨_, rfl⟩
  have hb : Below w.heap.size w W1 := by rw [hW1]; exact (below_a1 w _).alloc (by simp) _
  have HL : Hid (RcB w W1 c f) := Lib.hid ⟨by rw [hW1]; exact (Blk.new rfl).alloc _, by rw [hW1]; exact Blk.new (by simp), hG.ext hb, hc.ext hb, hf.ext hb, hb⟩
  have HBU := Lib.hid hcs
  have HFS := Lib.hid hfs
  rw [cdC_val, VD.val6]
  clear hb hG hc hf hcs hfs
  go_enter Tryz.func5, Tryz.ntmps5
  go_upto_region 1 with (fail)
  rw [← hW1]
  clear hW1
  go_wp2_with ((with_reducible show wpList _ _ _ (⟨some 22, _, _, _, _, _⟩ :: _) _ _); refine load_doc rfl _ rfl w.heap.size rfl c HL.out.one ?_)
  refine (small_any c W1 HL.out.cat HBU.out).mono ?_
  rintro e W2 ⟨b, rfl, hsm, hb⟩
  have HSM := Lib.hid hsm
  clear hsm
  have HLn : Hid (RcB w W2 c f) := Lib.hid (HL.out.ext hb)
  clear HL hb
  have HL := HLn
  clear HLn
  cases b with
  | false =>
    have HAL := Lib.hid (live_any W2 HL.out.glob)
    have HB := Lib.hid HL.out.below
    go_wp2_with fail
    refine HAL.out.mono ?_
    rintro e Wz1 ⟨rfl, hb⟩
    have HB1 := Lib.hid (HB.out.trans (hb.mono HB.out.size))
    clear hb HAL HB
    go_wp2
    go_ret
    exact ⟨rfl, HB1.out⟩
  | true =>
  have HSC : Hid (SmallC c) := Lib.hid (HSM.out rfl)
  clear HSM
  have h1 := size_any f W2 HL.out.vb HFS.out
  rw [VD.val6] at h1
  have H1 := Lib.hid h1
  clear h1
  obtain ⟨e0, e1, e2, e3, e4, e5⟩ := HL.out.two.sixT
  go_wp2_with fail
  refine H1.out.mono ?_
  clear H1
  clear e0 e1 e2 e3 e4 e5
  rintro e W3 ⟨m1, rfl, hm1, hm2, hb⟩
  have HM1 := Lib.hid hm2
  have hm1' : m1 ≤ 1048576 := Nat.le_trans hm1 HFS.out
  have HLn : Hid (RcB w W3 c f) := Lib.hid (HL.out.ext hb)
  clear HL hb
  have HL := HLn
  clear HLn
  clear hm1 hm2
  by_cases hbig : m1 ≤ 400
  case neg =>
    have hbi : (400 : Int) < m1 := by omega
    have HAL := Lib.hid (live_any W3 HL.out.glob)
    have HB := Lib.hid HL.out.below
    go_wp2_with fail
    refine HAL.out.mono ?_
    rintro e Wz2 ⟨rfl, hb⟩
    have HB1 := Lib.hid (HB.out.trans (hb.mono HB.out.size))
    clear hb HAL HB
    go_wp2
    go_ret
    exact ⟨rfl, HB1.out⟩
  have hbi : ¬ ((400 : Int) < m1) := by omega
  have HFZ : Hid (sizeV f.v ≤ 400) := Lib.hid (by rw [← HM1.out hbig]; exact hbig)
  clear hbig hm1' HM1
  go_wp2_with ((with_reducible show wpList _ _ _ (⟨some 33, _, _, _, _, _⟩ :: _) _ _); refine load_doc rfl _ rfl w.heap.size rfl c HL.out.one ?_)
  have h1 := of04_any c W3 HL.out.cat (by have := HBU.out; unfold bulkC at this; omega) (by have := HBU.out; unfold bulkC at this; omega) (by have := HBU.out; unfold bulkC at this; have := chN_len c.changes; omega)
  refine h1.mono ?_
  clear h1
  rintro e W4 ⟨c1, rfl, hcc, hcl, hca, hb⟩
  have HCC := Lib.hid hcc
  have HCL := Lib.hid hcl
  have HLn : Hid (RcB w W4 c f ∧ CallAt W4 c1) := Lib.hid (⟨HL.out.ext hb, hca⟩)
  clear HL hb
  have HL := HLn
  clear HLn
  clear hcc hcl hca
  have h1 := write_call c1 W4 HL.out.2 (copC_size HCC.out HCL.out HSC.out).1 (copC_size HCC.out HCL.out HSC.out).2.1 (copC_size HCC.out HCL.out HSC.out).2.2.1 (copC_size HCC.out HCL.out HSC.out).2.2.2
  have H1 := Lib.hid h1
  clear h1 hbi
  go_wp2_with fail
  refine H1.out.mono ?_
  clear H1
  rintro e W5 ⟨d, n, rfl, hok, hno, hda, hb⟩
  have HOK := Lib.hid hok
  have HNO := Lib.hid hno
  have HLn : Hid (RcB w W5 c f ∧ ValAt W5 (fun _ => True) d) := Lib.hid (⟨HL.out.1.ext hb, hda⟩)
  clear HL hb
  have HL := HLn
  clear HLn
  clear hok hno hda
  obtain ⟨gd, hg⟩ : ∃ q, q = W5.heap.size := ⟨_, rfl⟩
  obtain ⟨W6, hQ⟩ : ∃ q, q = W5.alloc (.cells #[.int .i64 d.sort, .bool d.on, .int .i64 d.n, .string ⟨d.text.toArray⟩, .slice d.a d.list.length d.c, .slice d.ka d.keys.length d.kc] 36) := ⟨_, rfl⟩
  have hb : Below W5.heap.size W5 W6 := by rw [hQ]; exact below_a1 _ _
  have HLn : Hid (RcB w W6 c f ∧ BX W6 gd d d.v) := Lib.hid (⟨HL.out.1.ext hb, by rw [hQ, hg]; exact BX.new HL.out.2 rfl⟩)
  clear HL hb
  have HL := HLn
  clear HLn
  go_upto_region 5 with (fail)
  rw [← hQ, ← hg]
  clear hQ hg
  by_cases hw : wrOk c1
  case neg =>
    obtain ⟨rfl, -⟩ := HNO.out hw
    go_upto_region 12 with (fail)
    have HX0 : Hid (RcB w W6 c f) := Lib.hid HL.out.1
    clear HL
    have HL := HX0
    clear HX0
    have h1 := ofU_any HL.out.vb HFS.out
    have H1 := Lib.hid h1
    clear h1
    obtain ⟨e0, e1, e2, e3, e4, e5⟩ := HL.out.two.sixT
    go_wp2_with fail
    refine H1.out.mono ?_
    clear H1
    clear e0 e1 e2 e3 e4 e5
    rintro e W7 ⟨q, rfl, hqv, hqa, hb⟩
    have HLn : Hid (RcB w W7 c f ∧ ValAt W7 (fun _ => True) q) := Lib.hid (⟨HL.out.ext hb, hqa⟩)
    clear HL hb
    have HL := HLn
    clear HLn
    have HQV := Lib.hid hqv
    clear hqv hqa
    have h1 := msg_any q W7 HL.out.2 (by rw [HQV.out]; exact HFS.out)
    rw [VD.val6, HQV.out] at h1
    unfold MsgE at h1
    obtain ⟨n15, hn15⟩ : ∃ n, n = (readC f.v).1 := ⟨_, rfl⟩
    obtain ⟨y15, hy15⟩ : ∃ n, n = (readC f.v).2 := ⟨_, rfl⟩
    rw [← hn15, ← hy15] at h1
    have HRD : Hid (readC f.v = (n15, y15)) := Lib.hid (by rw [hn15, hy15])
    have H1 := Lib.hid h1
    clear h1 hn15 hy15
    go_wp2_with fail
    refine H1.out.mono ?_
    clear H1
    rintro e W8 ⟨c15, rfl, hc15, hp15, hk15, hb⟩
    have HLn : Hid (RcB w W8 c f ∧ CY W8 c15 y15) := Lib.hid (⟨HL.out.1.ext hb, ⟨hc15, hk15, hp15⟩⟩)
    clear HL hb
    have HL := HLn
    clear HLn
    clear hc15 hp15 hk15 HQV
    obtain ⟨g15, hg⟩ : ∃ q, q = W8.heap.size := ⟨_, rfl⟩
    obtain ⟨W9, hQ⟩ : ∃ q, q = (W8.alloc (.cells #[.int .i64 0, .int .i64 0, .bool false, .int .i64 0, .string { data := #[] }, .slice none 0 0, .slice none 0 0, .string { data := #[] }, .int .i64 0, .string { data := #[] }, .slice none 0 0, .int .i64 0, .int .i64 0, .int .i64 0, .bool false, .int .i64 0, .string { data := #[] }, .slice none 0 0, .slice none 0 0] 43)).setRow W8.heap.size (cdC c15) := ⟨_, rfl⟩
    have hb : Below W8.heap.size W8 W9 := by rw [hQ]; exact below_row (below_a1 _ _) (Nat.le_refl _) _
    have HLn : Hid (RcB w W9 c f ∧ CX W9 g15 c15 y15) := Lib.hid (⟨HL.out.1.ext hb, ⟨by rw [hQ, hg]; exact setRow_blk (cur := #[.int .i64 0, .int .i64 0, .bool false, .int .i64 0, .string { data := #[] }, .slice none 0 0, .slice none 0 0, .string { data := #[] }, .int .i64 0, .string { data := #[] }, .slice none 0 0, .int .i64 0, .int .i64 0, .int .i64 0, .bool false, .int .i64 0, .string { data := #[] }, .slice none 0 0, .slice none 0 0]) (Blk.new rfl), HL.out.2.cat.ext hb, HL.out.2.k, HL.out.2.pos⟩⟩)
    clear HL hb
    have HL := HLn
    clear HLn
    go_upto_region 13 with ((with_reducible show wpList _ _ _ (⟨none, Op.store 43 (Operand.tmp 15) _, _, _, _, _⟩ :: _) _ _); refine store_call rfl _ _ rfl W8.heap.size c15 zeroCD rfl rfl (Blk.new rfl) ?_; rw [← hQ, ← hg]; clear hQ hg)
    by_cases hn0 : n15 = 0
    case neg =>
      have hn1 : (n15 == 0) = false := by simpa using hn0
      clear hn0
      have HAL := Lib.hid (live_any W9 HL.out.1.glob)
      have HB := Lib.hid HL.out.1.below
      go_wp2_with fail
      refine HAL.out.mono ?_
      rintro e Wz11 ⟨rfl, hb⟩
      have HB1 := Lib.hid (HB.out.trans (hb.mono HB.out.size))
      clear hb HAL HB
      go_wp2
      go_ret
      exact ⟨rfl, HB1.out⟩
    subst hn0
    have HSI := Lib.hid (read_sizes HRD.out HFZ.out)
    go_wp2_with ((with_reducible show wpList _ _ _ (⟨some 89, _, _, _, _, _⟩ :: _) _ _); refine load_call rfl _ rfl g15 rfl c15 HL.out.2.blk ?_)
    have h1 := write_call c15 W9 HL.out.2.cat (by rw [HL.out.2.k]; exact HSI.out.1) (cy_sizes HL.out.2.k HSI.out.2.1 HSI.out.2.2.1 HSI.out.2.2.2).1 (cy_sizes HL.out.2.k HSI.out.2.1 HSI.out.2.2.1 HSI.out.2.2.2).2.1 (cy_sizes HL.out.2.k HSI.out.2.1 HSI.out.2.2.1 HSI.out.2.2.2).2.2
    refine h1.mono ?_
    clear h1
    rintro e W10 ⟨x17, n17, rfl, hok, -, hxa, hb⟩
    obtain ⟨rfl, hxv⟩ := hok (read_wr HRD.out HL.out.2.k HL.out.2.pos)
    rw [HL.out.2.k] at hxv
    have HXV := Lib.hid hxv
    clear hok hxv
    have HLn : Hid (RcB w W10 c f ∧ CX W10 g15 c15 y15 ∧ ValAt W10 (fun _ => True) x17) := Lib.hid (⟨HL.out.1.ext hb, HL.out.2.ext hb, hxa⟩)
    clear HL hb
    have HL := HLn
    clear HLn
    clear hxa
    obtain ⟨g17, hg⟩ : ∃ q, q = W10.heap.size := ⟨_, rfl⟩
    obtain ⟨W11, hQ⟩ : ∃ q, q = W10.alloc (.cells #[.int .i64 x17.sort, .bool x17.on, .int .i64 x17.n, .string ⟨x17.text.toArray⟩, .slice x17.a x17.list.length x17.c, .slice x17.ka x17.keys.length x17.kc] 36) := ⟨_, rfl⟩
    have hb : Below W10.heap.size W10 W11 := by rw [hQ]; exact below_a1 _ _
    have HLn : Hid (RcB w W11 c f ∧ CX W11 g15 c15 y15 ∧ BX W11 g17 x17 x17.v) := Lib.hid (⟨HL.out.1.ext hb, HL.out.2.1.ext hb, by rw [hQ, hg]; exact BX.new HL.out.2.2 rfl⟩)
    clear HL hb
    have HL := HLn
    clear HLn
    go_upto_region 16 with (fail)
    rw [← hQ, ← hg]
    clear hQ hg
    have h1 := msg_any x17 W11 HL.out.2.2.val (by rw [HXV.out]; exact HSI.out.1)
    rw [VD.val6, HXV.out] at h1
    unfold MsgE at h1
    rw [told_back (readC_told HRD.out)] at h1
    have H1 := Lib.hid h1
    clear h1
    obtain ⟨e0, e1, e2, e3, e4, e5⟩ := HL.out.2.2.blk.sixT
    go_wp2_with fail
    refine H1.out.mono ?_
    clear H1
    clear e0 e1 e2 e3 e4 e5
    rintro e W12 ⟨c19, rfl, hc19, hp19, hk19, hb⟩
    have HLn : Hid (RcB w W12 c f ∧ CX W12 g15 c15 y15 ∧ BX W12 g17 x17 x17.v ∧ CY W12 c19 y15) := Lib.hid (⟨HL.out.1.ext hb, HL.out.2.1.ext hb, HL.out.2.2.ext hb, ⟨hc19, hk19, hp19⟩⟩)
    clear HL hb
    have HL := HLn
    clear HLn
    clear hc19 hp19 hk19
    obtain ⟨g19, hg⟩ : ∃ q, q = W12.heap.size := ⟨_, rfl⟩
    obtain ⟨W13, hQ⟩ : ∃ q, q = (W12.alloc (.cells #[.int .i64 0, .int .i64 0, .bool false, .int .i64 0, .string { data := #[] }, .slice none 0 0, .slice none 0 0, .string { data := #[] }, .int .i64 0, .string { data := #[] }, .slice none 0 0, .int .i64 0, .int .i64 0, .int .i64 0, .bool false, .int .i64 0, .string { data := #[] }, .slice none 0 0, .slice none 0 0] 43)).setRow W12.heap.size (cdC c19) := ⟨_, rfl⟩
    have hb : Below W12.heap.size W12 W13 := by rw [hQ]; exact below_row (below_a1 _ _) (Nat.le_refl _) _
    have HLn : Hid (RcB w W13 c f ∧ CX W13 g15 c15 y15 ∧ BX W13 g17 x17 x17.v ∧ CX W13 g19 c19 y15) := Lib.hid (⟨HL.out.1.ext hb, HL.out.2.1.ext hb, HL.out.2.2.1.ext hb, ⟨by rw [hQ, hg]; exact setRow_blk (cur := #[.int .i64 0, .int .i64 0, .bool false, .int .i64 0, .string { data := #[] }, .slice none 0 0, .slice none 0 0, .string { data := #[] }, .int .i64 0, .string { data := #[] }, .slice none 0 0, .int .i64 0, .int .i64 0, .int .i64 0, .bool false, .int .i64 0, .string { data := #[] }, .slice none 0 0, .slice none 0 0]) (Blk.new rfl), HL.out.2.2.2.cat.ext hb, HL.out.2.2.2.k, HL.out.2.2.2.pos⟩⟩)
    clear HL hb
    have HL := HLn
    clear HLn
    go_upto_region 17 with ((with_reducible show wpList _ _ _ (⟨none, Op.store 43 (Operand.tmp 19) _, _, _, _, _⟩ :: _) _ _); refine store_call rfl _ _ rfl W12.heap.size c19 zeroCD rfl rfl (Blk.new rfl) ?_; rw [← hQ, ← hg]; clear hQ hg)
    refine wp_region_held_drew (S := (fun w' => Blk w' g15 (cdC c15) 43 ∧ Blk w' g19 (cdC c19) 43)) (by kernel_rfl) ?_ (fun hHeld => ?_)
    · exact ⟨HL.out.2.1.blk, HL.out.2.2.2.blk⟩
    obtain ⟨W14, hWd⟩ : ∃ q, q = W13.drew := ⟨_, rfl⟩
    rw [← hWd] at hHeld ⊢
    have HLn : Hid (RcB w W14 c f ∧ CX W14 g15 c15 y15 ∧ BX W14 g17 x17 x17.v ∧ CX W14 g19 c19 y15) := Lib.hid (by rw [hWd]; have hb := (Below.refl W13.heap.size W13).drew; exact ⟨HL.out.1.ext hb, HL.out.2.1.ext hb, HL.out.2.2.1.ext hb, HL.out.2.2.2.ext hb⟩)
    clear HL hWd
    have HL := HLn
    clear HLn
    refine wpAnyH_take (i := 0) (oi := ⟨some 98, _, _, _, _, _⟩) (v := ?_) rfl (by kernel_rfl) (by kernel_rfl) (by kernel_rfl) (fun _ _ _ h => h) (Or.inl ⟨by rfl, ?_⟩) (by assumption) ?_; rotate_left; focus (intro w hSw; (try dsimp only at hSw); refine exec_load_call (x := .tmp 15) (g := g15) (c := c15) ?_ ?_ hSw.1 <;> rfl)
    try simp only [Act.put]
    try simp only [List.setIfInBounds_toArray]
    try simp only [List.set_cons_succ, List.set_cons_zero]
    refine wpAnyH_take (i := 2) (oi := ⟨some 100, _, _, _, _, _⟩) (v := ?_) rfl (by kernel_rfl) (by kernel_rfl) (by kernel_rfl) (fun _ _ _ h => h) (Or.inl ⟨by rfl, ?_⟩) (by assumption) ?_; rotate_left; focus (intro w hSw; (try dsimp only at hSw); refine exec_load_call (x := .tmp 19) (g := g19) (c := c19) ?_ ?_ hSw.2 <;> rfl)
    try simp only [Act.put]
    try simp only [List.setIfInBounds_toArray]
    try simp only [List.set_cons_succ, List.set_cons_zero]
    refine wpAnyH_ready (rs := [1]) (by kernel_rfl) (by simp) ?_
    refine AllReadyH.cons (i := 1) (o := ⟨some 99, _, _, _, _, _⟩) rfl (fun K hK => ?_) ?_
    · go_simp
      have h1 := to04_any c15 W14 HL.out.2.1.cat (cy_sizes HL.out.2.1.k HSI.out.2.1 HSI.out.2.2.1 HSI.out.2.2.2).1 (cy_sizes HL.out.2.1.k HSI.out.2.1 HSI.out.2.2.1 HSI.out.2.2.2).2.1 (cy_sizes HL.out.2.1.k HSI.out.2.1 HSI.out.2.2.1 HSI.out.2.2.2).2.2
      refine h1.mono ?_
      clear h1
      rintro e W15 ⟨z1, rfl, hcc, hcl, hca, hb⟩
      have HLn : Hid (RcB w W15 c f ∧ CX W15 g15 c15 y15 ∧ BX W15 g17 x17 x17.v ∧ CX W15 g19 c19 y15 ∧ CY W15 z1 y15) := Lib.hid (⟨HL.out.1.ext hb, HL.out.2.1.ext hb, HL.out.2.2.1.ext hb, HL.out.2.2.2.ext hb, ⟨hca, by rw [copC_k hcc hcl]; exact HL.out.2.1.k, by rw [hcc.1]; exact HL.out.2.1.pos⟩⟩)
      clear HL hb
      have HL := HLn
      clear HLn
      clear hcc hcl hca
      refine hK.out _ _ ?_ (fun hHeld => ?_)
      · exact ⟨HL.out.2.1.blk, HL.out.2.2.2.1.blk⟩
      try simp only [Act.put]
      try simp only [List.setIfInBounds_toArray]
      try simp only [List.set_cons_succ, List.set_cons_zero]
      refine wpAnyH_ready (rs := [3]) (by kernel_rfl) (by simp) ?_
      refine AllReadyH.cons (i := 3) (o := ⟨some 101, _, _, _, _, _⟩) rfl (fun K hK => ?_) ?_
      · go_simp
        have h1 := to04_any c19 W15 HL.out.2.2.2.1.cat (cy_sizes HL.out.2.2.2.1.k HSI.out.2.1 HSI.out.2.2.1 HSI.out.2.2.2).1 (cy_sizes HL.out.2.2.2.1.k HSI.out.2.1 HSI.out.2.2.1 HSI.out.2.2.2).2.1 (cy_sizes HL.out.2.2.2.1.k HSI.out.2.1 HSI.out.2.2.1 HSI.out.2.2.2).2.2
        refine h1.mono ?_
        clear h1
        rintro e W16 ⟨z2, rfl, hcc, hcl, hca, hb⟩
        have HLn : Hid (RcB w W16 c f ∧ CX W16 g15 c15 y15 ∧ BX W16 g17 x17 x17.v ∧ CX W16 g19 c19 y15 ∧ CY W16 z1 y15 ∧ CY W16 z2 y15) := Lib.hid (⟨HL.out.1.ext hb, HL.out.2.1.ext hb, HL.out.2.2.1.ext hb, HL.out.2.2.2.1.ext hb, HL.out.2.2.2.2.ext hb, ⟨hca, by rw [copC_k hcc hcl]; exact HL.out.2.2.2.1.k, by rw [hcc.1]; exact HL.out.2.2.2.1.pos⟩⟩)
        clear HL hb
        have HL := HLn
        clear HLn
        clear hcc hcl hca
        refine hK.out _ _ ?_ (fun hHeld => ?_)
        · exact ⟨HL.out.2.1.blk, HL.out.2.2.2.1.blk⟩
        try simp only [Act.put]
        try simp only [List.setIfInBounds_toArray]
        try simp only [List.set_cons_succ, List.set_cons_zero]
        refine wpAnyH_ready (rs := [4]) (by kernel_rfl) (by simp) ?_
        refine AllReadyH.cons (i := 4) (o := ⟨some 102, _, _, _, _, _⟩) rfl (fun K hK => ?_) ?_
        · go_simp
          refine (sameC_any z1 z2 W16 HL.out.2.2.2.2.1.cat HL.out.2.2.2.2.2.cat (cy_sizes HL.out.2.2.2.2.1.k HSI.out.2.1 HSI.out.2.2.1 HSI.out.2.2.2).1 (cy_sizes HL.out.2.2.2.2.1.k HSI.out.2.1 HSI.out.2.2.1 HSI.out.2.2.2).2.1 (cy_sizes HL.out.2.2.2.2.1.k HSI.out.2.1 HSI.out.2.2.1 HSI.out.2.2.2).2.2).mono ?_
          intro e W17 h1
          obtain ⟨rfl, hb⟩ := same_true HL.out.2.2.2.2.1.k HL.out.2.2.2.2.2.k HL.out.2.2.2.2.1.pos HL.out.2.2.2.2.2.pos h1
          clear h1
          have HLn : Hid (RcB w W17 c f ∧ CX W17 g15 c15 y15 ∧ BX W17 g17 x17 x17.v ∧ CX W17 g19 c19 y15 ∧ CY W17 z1 y15 ∧ CY W17 z2 y15) := Lib.hid (⟨HL.out.1.ext hb, HL.out.2.1.ext hb, HL.out.2.2.1.ext hb, HL.out.2.2.2.1.ext hb, HL.out.2.2.2.2.1.ext hb, HL.out.2.2.2.2.2.ext hb⟩)
          clear HL hb
          have HL := HLn
          clear HLn
          refine hK.out _ _ ?_ (fun hHeld => ?_)
          · exact ⟨HL.out.2.1.blk, HL.out.2.2.2.1.blk⟩
          try simp only [Act.put]
          try simp only [List.setIfInBounds_toArray]
          try simp only [List.set_cons_succ, List.set_cons_zero]
          refine wpAnyH_take (i := 5) (oi := ⟨some 21, _, _, _, _, _⟩) (v := ?_) rfl (by kernel_rfl) (by kernel_rfl) (by kernel_rfl) (fun _ _ _ h => h) (Or.inl ⟨by rfl, ?_⟩) (by assumption) ?_; rotate_left; focus (intro w hSw; (try dsimp only at hSw); first | (go_simp; done) | (go_simp; with_reducible rfl))
          try simp only [Act.put]
          try simp only [List.setIfInBounds_toArray]
          try simp only [List.set_cons_succ, List.set_cons_zero]
          refine wpAnyH_done (by kernel_rfl) ?_ _
          clear hHeld
          have HAL := Lib.hid (live_any W17 HL.out.1.glob)
          have HB := Lib.hid HL.out.1.below
          clear HL
          go_wp2_with fail
          refine HAL.out.mono ?_
          rintro e W18 ⟨rfl, hb⟩
          have HB1 := Lib.hid (HB.out.trans (hb.mono HB.out.size))
          clear hb HAL HB
          go_wp2
          go_ret
          exact ⟨rfl, HB1.out⟩
        exact AllReadyH.nil
      exact AllReadyH.nil
    exact AllReadyH.nil
  obtain ⟨rfl, hdv⟩ := HOK.out hw
  obtain ⟨hrd, hpos⟩ := wr_iff HCC.out HCL.out hw
  rw [copC_k HCC.out HCL.out] at hdv
  have HDV := Lib.hid hdv
  have HRC := Lib.hid hrd
  have HPO : Hid (0 ≤ c.kind) := Lib.hid (by omega)
  have HMS := Lib.hid (small_msg HSC.out)
  clear hw hdv hrd hpos HOK HNO HCC HCL
  go_upto_region 6 with (fail)
  have h1 := msg_any d W6 HL.out.2.val (by rw [HDV.out]; exact Nat.le_trans HMS.out (by decide))
  rw [VD.val6, HDV.out] at h1
  unfold MsgE at h1
  rw [HRC.out] at h1
  have H1 := Lib.hid h1
  clear h1
  obtain ⟨e0, e1, e2, e3, e4, e5⟩ := HL.out.2.blk.sixT
  go_wp2_with fail
  refine H1.out.mono ?_
  clear H1
  clear e0 e1 e2 e3 e4 e5
  rintro e W19 ⟨c9, rfl, hc9, hp9, hk9, hb⟩
  have HLn : Hid (RcB w W19 c f ∧ BX W19 gd d d.v ∧ CY W19 c9 c.k) := Lib.hid (⟨HL.out.1.ext hb, HL.out.2.ext hb, ⟨hc9, hk9, hp9⟩⟩)
  clear HL hb
  have HL := HLn
  clear HLn
  clear hc9 hp9 hk9
  obtain ⟨g9, hg⟩ : ∃ q, q = W19.heap.size := ⟨_, rfl⟩
  obtain ⟨W20, hQ⟩ : ∃ q, q = (W19.alloc (.cells #[.int .i64 0, .int .i64 0, .bool false, .int .i64 0, .string { data := #[] }, .slice none 0 0, .slice none 0 0, .string { data := #[] }, .int .i64 0, .string { data := #[] }, .slice none 0 0, .int .i64 0, .int .i64 0, .int .i64 0, .bool false, .int .i64 0, .string { data := #[] }, .slice none 0 0, .slice none 0 0] 43)).setRow W19.heap.size (cdC c9) := ⟨_, rfl⟩
  have hb : Below W19.heap.size W19 W20 := by rw [hQ]; exact below_row (below_a1 _ _) (Nat.le_refl _) _
  have HLn : Hid (RcB w W20 c f ∧ BX W20 gd d d.v ∧ CX W20 g9 c9 c.k) := Lib.hid (⟨HL.out.1.ext hb, HL.out.2.1.ext hb, ⟨by rw [hQ, hg]; exact setRow_blk (cur := #[.int .i64 0, .int .i64 0, .bool false, .int .i64 0, .string { data := #[] }, .slice none 0 0, .slice none 0 0, .string { data := #[] }, .int .i64 0, .string { data := #[] }, .slice none 0 0, .int .i64 0, .int .i64 0, .int .i64 0, .bool false, .int .i64 0, .string { data := #[] }, .slice none 0 0, .slice none 0 0]) (Blk.new rfl), HL.out.2.2.cat.ext hb, HL.out.2.2.k, HL.out.2.2.pos⟩⟩)
  clear HL hb
  have HL := HLn
  clear HLn
  go_upto_region 7 with ((with_reducible show wpList _ _ _ (⟨none, Op.store 43 (Operand.tmp 8) _, _, _, _, _⟩ :: _) _ _); refine store_call rfl _ _ rfl W19.heap.size c9 zeroCD rfl rfl (Blk.new rfl) ?_; rw [← hQ, ← hg]; clear hQ hg)
  refine wp_region_held_drew (S := (fun w' => Blk w' g9 (cdC c9) 43 ∧ Blk w' w.heap.size (cdC c) 31)) (by kernel_rfl) ?_ (fun hHeld => ?_)
  · exact ⟨HL.out.2.2.blk, HL.out.1.one⟩
  obtain ⟨W21, hWd⟩ : ∃ q, q = W20.drew := ⟨_, rfl⟩
  rw [← hWd] at hHeld ⊢
  have HLn : Hid (RcB w W21 c f ∧ BX W21 gd d d.v ∧ CX W21 g9 c9 c.k) := Lib.hid (by rw [hWd]; have hb := (Below.refl W20.heap.size W20).drew; exact ⟨HL.out.1.ext hb, HL.out.2.1.ext hb, HL.out.2.2.ext hb⟩)
  clear HL hWd
  have HL := HLn
  clear HLn
  refine wpAnyH_take (i := 0) (oi := ⟨some 45, _, _, _, _, _⟩) (v := ?_) rfl (by kernel_rfl) (by kernel_rfl) (by kernel_rfl) (fun _ _ _ h => h) (Or.inl ⟨by rfl, ?_⟩) (by assumption) ?_; rotate_left; focus (intro w hSw; (try dsimp only at hSw); refine exec_load_call (x := .tmp 8) (g := g9) (c := c9) ?_ ?_ hSw.1 <;> rfl)
  try simp only [Act.put]
  try simp only [List.setIfInBounds_toArray]
  try simp only [List.set_cons_succ, List.set_cons_zero]
  refine wpAnyH_take (i := 2) (oi := ⟨some 47, _, _, _, _, _⟩) (v := ?_) rfl (by kernel_rfl) (by kernel_rfl) (by kernel_rfl) (fun _ _ _ h => h) (Or.inl ⟨by rfl, ?_⟩) (by assumption) ?_; rotate_left; focus (intro w hSw; (try dsimp only at hSw); refine exec_load_doc (x := .tmp 2) (c := c) ?_ ?_ hSw.2 <;> rfl)
  try simp only [Act.put]
  try simp only [List.setIfInBounds_toArray]
  try simp only [List.set_cons_succ, List.set_cons_zero]
  refine wpAnyH_ready (rs := [1]) (by kernel_rfl) (by simp) ?_
  refine AllReadyH.cons (i := 1) (o := ⟨some 46, _, _, _, _, _⟩) rfl (fun K hK => ?_) ?_
  · go_simp
    have hsz := (cy_sizes (n := 1048576) HL.out.2.2.k (by have := HSC.out.2.1; show sizeV c.id.v ≤ _; omega) (by have := HSC.out.2.2; show sizeV c.other.v ≤ _; omega) (by have h1 := HSC.out.1; have h2 := chN_len c.changes; show c.changes.length ≤ _; omega))
    have h1 := to04_any c9 W21 HL.out.2.2.cat hsz.1 hsz.2.1 hsz.2.2
    refine h1.mono ?_
    clear h1 hsz
    rintro e W22 ⟨c10, rfl, hcc, hcl, hca, hb⟩
    have HLn : Hid (RcB w W22 c f ∧ BX W22 gd d d.v ∧ CX W22 g9 c9 c.k ∧ CY W22 c10 c.k) := Lib.hid (⟨HL.out.1.ext hb, HL.out.2.1.ext hb, HL.out.2.2.ext hb, ⟨hca, by rw [copC_k hcc hcl]; exact HL.out.2.2.k, by rw [hcc.1]; exact HL.out.2.2.pos⟩⟩)
    clear HL hb
    have HL := HLn
    clear HLn
    clear hcc hcl hca
    refine hK.out _ _ ?_ (fun hHeld => ?_)
    · exact ⟨HL.out.2.2.1.blk, HL.out.1.one⟩
    try simp only [Act.put]
    try simp only [List.setIfInBounds_toArray]
    try simp only [List.set_cons_succ, List.set_cons_zero]
    refine wpAnyH_ready (rs := [3]) (by kernel_rfl) (by simp) ?_
    refine AllReadyH.cons (i := 3) (o := ⟨some 48, _, _, _, _, _⟩) rfl (fun K hK => ?_) ?_
    · go_simp
      have hsz := (cy_sizes (n := 1048576) HL.out.2.2.2.k (by have := HSC.out.2.1; show sizeV c.id.v ≤ _; omega) (by have := HSC.out.2.2; show sizeV c.other.v ≤ _; omega) (by have h1 := HSC.out.1; have h2 := chN_len c.changes; show c.changes.length ≤ _; omega))
      have h1 := sameC_any c10 c W22 HL.out.2.2.2.cat HL.out.1.cat hsz.1 hsz.2.1 hsz.2.2
      refine h1.mono ?_
      clear h1 hsz
      intro e W23 h1
      obtain ⟨rfl, hb⟩ := same_true HL.out.2.2.2.k rfl HL.out.2.2.2.pos HPO.out h1
      clear h1
      have HLn : Hid (RcB w W23 c f ∧ BX W23 gd d d.v ∧ CX W23 g9 c9 c.k) := Lib.hid (⟨HL.out.1.ext hb, HL.out.2.1.ext hb, HL.out.2.2.1.ext hb⟩)
      clear HL hb
      have HL := HLn
      clear HLn
      refine hK.out _ _ ?_ (fun hHeld => ?_)
      · exact ⟨HL.out.2.2.blk, HL.out.1.one⟩
      try simp only [Act.put]
      try simp only [List.setIfInBounds_toArray]
      try simp only [List.set_cons_succ, List.set_cons_zero]
      refine wpAnyH_take (i := 4) (oi := ⟨some 10, _, _, _, _, _⟩) (v := ?_) rfl (by kernel_rfl) (by kernel_rfl) (by kernel_rfl) (fun _ _ _ h => h) (Or.inl ⟨by rfl, ?_⟩) (by assumption) ?_; rotate_left; focus (intro w hSw; (try dsimp only at hSw); first | (go_simp; done) | (go_simp; with_reducible rfl))
      try simp only [Act.put]
      try simp only [List.setIfInBounds_toArray]
      try simp only [List.set_cons_succ, List.set_cons_zero]
      refine wpAnyH_done (by kernel_rfl) ?_ _
      clear hHeld
      have h1 := vwrite_any d W23 HL.out.1.glob HL.out.2.1.val (by rw [HDV.out]; exact Nat.le_trans HMS.out (by decide))
      rw [VD.val6, HDV.out] at h1
      obtain ⟨e0, e1, e2, e3, e4, e5⟩ := HL.out.2.1.blk.sixT
      by_cases hr : right 20 (msgW c.k) = true
      case pos =>
        unfold wrote at h1
        rw [if_pos hr] at h1
        have H1 := Lib.hid h1
        have HR := Lib.hid hr
        clear h1 hr
        have h2 := textV_len (msgW c.k) (right_form HR.out)
        obtain ⟨T, hT⟩ : ∃ T, T = textV (msgW c.k) := ⟨_, rfl⟩
        have HT : Hid (readL T = .ok (msgW c.k) []) := Lib.hid (by rw [hT]; exact readL_text HR.out)
        have HTL : Hid (T.length ≤ 1048576) := Lib.hid (by rw [hT]; have := HMS.out; omega)
        rw [← hT] at H1
        clear h2 hT
        go_wp2_with fail
        refine H1.out.mono ?_
        clear H1
        clear e0 e1 e2 e3 e4 e5
        rintro e W25 ⟨rfl, hb⟩
        have HLn : Hid (RcB w W25 c f ∧ BX W25 gd d d.v ∧ CX W25 g9 c9 c.k) := Lib.hid (⟨HL.out.1.ext hb, HL.out.2.1.ext hb, HL.out.2.2.ext hb⟩)
        clear HL hb
        have HL := HLn
        clear HLn
        have h1 := read_any T W25 HL.out.1.glob HTL.out
        rw [HT.out] at h1
        have H1 := Lib.hid h1
        clear h1
        go_wp2_with fail
        refine H1.out.mono ?_
        clear H1
        intro e W26 h1
        obtain ⟨x, rfl, hxv, hxa, hb⟩ := readE_ok h1
        have HXV := Lib.hid hxv
        clear h1 hxv
        have HLn : Hid (RcB w W26 c f ∧ BX W26 gd d d.v ∧ CX W26 g9 c9 c.k ∧ ValAt W26 (fun _ => True) x) := Lib.hid (⟨HL.out.1.ext hb, HL.out.2.1.ext hb, HL.out.2.2.ext hb, hxa.mono fun _ _ _ => trivial⟩)
        clear HL hb
        have HL := HLn
        clear HLn
        clear hxa
        obtain ⟨gx, hg⟩ : ∃ q, q = W26.heap.size := ⟨_, rfl⟩
        obtain ⟨W27, hQ⟩ : ∃ q, q = W26.alloc (.cells #[.int .i64 x.sort, .bool x.on, .int .i64 x.n, .string ⟨x.text.toArray⟩, .slice x.a x.list.length x.c, .slice x.ka x.keys.length x.kc] 36) := ⟨_, rfl⟩
        have hb : Below W26.heap.size W26 W27 := by rw [hQ]; exact below_a1 _ _
        have HLn : Hid (RcB w W27 c f ∧ BX W27 gd d d.v ∧ CX W27 g9 c9 c.k ∧ BX W27 gx x x.v) := Lib.hid (⟨HL.out.1.ext hb, HL.out.2.1.ext hb, HL.out.2.2.1.ext hb, by rw [hQ, hg]; exact BX.new HL.out.2.2.2 rfl⟩)
        clear HL hb
        have HL := HLn
        clear HLn
        go_upto_region 10 with (fail)
        rw [← hQ, ← hg]
        clear hQ hg
        obtain ⟨e0, e1, e2, e3, e4, e5⟩ := HL.out.2.2.2.blk.sixT
        obtain ⟨d0, d1, d2, d3, d4, d5⟩ := HL.out.2.1.blk.sixT
        have h1 := same_any x d W27 HL.out.2.2.2.val HL.out.2.1.val (by rw [HXV.out]; exact Nat.le_trans HMS.out (by decide))
        rw [VD.val6, VD.val6] at h1
        have H1 := Lib.hid h1
        clear h1
        go_wp2_with fail
        refine H1.out.mono ?_
        clear H1 d0 d1 d2 d3 d4 d5
        clear e0 e1 e2 e3 e4 e5
        rintro e W28 ⟨_, rfl, hb, b, rfl, hbb⟩
        obtain rfl : b = true := hbb.2 (by rw [HXV.out, HDV.out])
        clear hbb
        have HLn : Hid (RcB w W28 c f ∧ BX W28 gd d d.v ∧ CX W28 g9 c9 c.k ∧ BX W28 gx x x.v) := Lib.hid (⟨HL.out.1.ext hb, HL.out.2.1.ext hb, HL.out.2.2.1.ext hb, HL.out.2.2.2.ext hb⟩)
        clear HL hb
        have HL := HLn
        clear HLn
        go_upto_region 12 with (fail)
        have HX0 : Hid (RcB w W28 c f) := Lib.hid HL.out.1
        clear HL
        have HL := HX0
        clear HX0
        have h1 := ofU_any HL.out.vb HFS.out
        have H1 := Lib.hid h1
        clear h1
        obtain ⟨e0, e1, e2, e3, e4, e5⟩ := HL.out.two.sixT
        go_wp2_with fail
        refine H1.out.mono ?_
        clear H1
        clear e0 e1 e2 e3 e4 e5
        rintro e W29 ⟨q, rfl, hqv, hqa, hb⟩
        have HLn : Hid (RcB w W29 c f ∧ ValAt W29 (fun _ => True) q) := Lib.hid (⟨HL.out.ext hb, hqa⟩)
        clear HL hb
        have HL := HLn
        clear HLn
        have HQV := Lib.hid hqv
        clear hqv hqa
        have h1 := msg_any q W29 HL.out.2 (by rw [HQV.out]; exact HFS.out)
        rw [VD.val6, HQV.out] at h1
        unfold MsgE at h1
        obtain ⟨n15, hn15⟩ : ∃ n, n = (readC f.v).1 := ⟨_, rfl⟩
        obtain ⟨y15, hy15⟩ : ∃ n, n = (readC f.v).2 := ⟨_, rfl⟩
        rw [← hn15, ← hy15] at h1
        have HRD : Hid (readC f.v = (n15, y15)) := Lib.hid (by rw [hn15, hy15])
        have H1 := Lib.hid h1
        clear h1 hn15 hy15
        go_wp2_with fail
        refine H1.out.mono ?_
        clear H1
        rintro e W30 ⟨c15, rfl, hc15, hp15, hk15, hb⟩
        have HLn : Hid (RcB w W30 c f ∧ CY W30 c15 y15) := Lib.hid (⟨HL.out.1.ext hb, ⟨hc15, hk15, hp15⟩⟩)
        clear HL hb
        have HL := HLn
        clear HLn
        clear hc15 hp15 hk15 HQV
        obtain ⟨g15, hg⟩ : ∃ q, q = W30.heap.size := ⟨_, rfl⟩
        obtain ⟨W31, hQ⟩ : ∃ q, q = (W30.alloc (.cells #[.int .i64 0, .int .i64 0, .bool false, .int .i64 0, .string { data := #[] }, .slice none 0 0, .slice none 0 0, .string { data := #[] }, .int .i64 0, .string { data := #[] }, .slice none 0 0, .int .i64 0, .int .i64 0, .int .i64 0, .bool false, .int .i64 0, .string { data := #[] }, .slice none 0 0, .slice none 0 0] 43)).setRow W30.heap.size (cdC c15) := ⟨_, rfl⟩
        have hb : Below W30.heap.size W30 W31 := by rw [hQ]; exact below_row (below_a1 _ _) (Nat.le_refl _) _
        have HLn : Hid (RcB w W31 c f ∧ CX W31 g15 c15 y15) := Lib.hid (⟨HL.out.1.ext hb, ⟨by rw [hQ, hg]; exact setRow_blk (cur := #[.int .i64 0, .int .i64 0, .bool false, .int .i64 0, .string { data := #[] }, .slice none 0 0, .slice none 0 0, .string { data := #[] }, .int .i64 0, .string { data := #[] }, .slice none 0 0, .int .i64 0, .int .i64 0, .int .i64 0, .bool false, .int .i64 0, .string { data := #[] }, .slice none 0 0, .slice none 0 0]) (Blk.new rfl), HL.out.2.cat.ext hb, HL.out.2.k, HL.out.2.pos⟩⟩)
        clear HL hb
        have HL := HLn
        clear HLn
        go_upto_region 13 with ((with_reducible show wpList _ _ _ (⟨none, Op.store 43 (Operand.tmp 15) _, _, _, _, _⟩ :: _) _ _); refine store_call rfl _ _ rfl W30.heap.size c15 zeroCD rfl rfl (Blk.new rfl) ?_; rw [← hQ, ← hg]; clear hQ hg)
        by_cases hn0 : n15 = 0
        case neg =>
          have hn1 : (n15 == 0) = false := by simpa using hn0
          clear hn0
          have HAL := Lib.hid (live_any W31 HL.out.1.glob)
          have HB := Lib.hid HL.out.1.below
          go_wp2_with fail
          refine HAL.out.mono ?_
          rintro e Wz12 ⟨rfl, hb⟩
          have HB1 := Lib.hid (HB.out.trans (hb.mono HB.out.size))
          clear hb HAL HB
          go_wp2
          go_ret
          exact ⟨rfl, HB1.out⟩
        subst hn0
        have HSI := Lib.hid (read_sizes HRD.out HFZ.out)
        go_wp2_with ((with_reducible show wpList _ _ _ (⟨some 89, _, _, _, _, _⟩ :: _) _ _); refine load_call rfl _ rfl g15 rfl c15 HL.out.2.blk ?_)
        have h1 := write_call c15 W31 HL.out.2.cat (by rw [HL.out.2.k]; exact HSI.out.1) (cy_sizes HL.out.2.k HSI.out.2.1 HSI.out.2.2.1 HSI.out.2.2.2).1 (cy_sizes HL.out.2.k HSI.out.2.1 HSI.out.2.2.1 HSI.out.2.2.2).2.1 (cy_sizes HL.out.2.k HSI.out.2.1 HSI.out.2.2.1 HSI.out.2.2.2).2.2
        refine h1.mono ?_
        clear h1
        rintro e W32 ⟨x17, n17, rfl, hok, -, hxa, hb⟩
        obtain ⟨rfl, hxv⟩ := hok (read_wr HRD.out HL.out.2.k HL.out.2.pos)
        rw [HL.out.2.k] at hxv
        have HXV := Lib.hid hxv
        clear hok hxv
        have HLn : Hid (RcB w W32 c f ∧ CX W32 g15 c15 y15 ∧ ValAt W32 (fun _ => True) x17) := Lib.hid (⟨HL.out.1.ext hb, HL.out.2.ext hb, hxa⟩)
        clear HL hb
        have HL := HLn
        clear HLn
        clear hxa
        obtain ⟨g17, hg⟩ : ∃ q, q = W32.heap.size := ⟨_, rfl⟩
        obtain ⟨W33, hQ⟩ : ∃ q, q = W32.alloc (.cells #[.int .i64 x17.sort, .bool x17.on, .int .i64 x17.n, .string ⟨x17.text.toArray⟩, .slice x17.a x17.list.length x17.c, .slice x17.ka x17.keys.length x17.kc] 36) := ⟨_, rfl⟩
        have hb : Below W32.heap.size W32 W33 := by rw [hQ]; exact below_a1 _ _
        have HLn : Hid (RcB w W33 c f ∧ CX W33 g15 c15 y15 ∧ BX W33 g17 x17 x17.v) := Lib.hid (⟨HL.out.1.ext hb, HL.out.2.1.ext hb, by rw [hQ, hg]; exact BX.new HL.out.2.2 rfl⟩)
        clear HL hb
        have HL := HLn
        clear HLn
        go_upto_region 16 with (fail)
        rw [← hQ, ← hg]
        clear hQ hg
        have h1 := msg_any x17 W33 HL.out.2.2.val (by rw [HXV.out]; exact HSI.out.1)
        rw [VD.val6, HXV.out] at h1
        unfold MsgE at h1
        rw [told_back (readC_told HRD.out)] at h1
        have H1 := Lib.hid h1
        clear h1
        obtain ⟨e0, e1, e2, e3, e4, e5⟩ := HL.out.2.2.blk.sixT
        go_wp2_with fail
        refine H1.out.mono ?_
        clear H1
        clear e0 e1 e2 e3 e4 e5
        rintro e W34 ⟨c19, rfl, hc19, hp19, hk19, hb⟩
        have HLn : Hid (RcB w W34 c f ∧ CX W34 g15 c15 y15 ∧ BX W34 g17 x17 x17.v ∧ CY W34 c19 y15) := Lib.hid (⟨HL.out.1.ext hb, HL.out.2.1.ext hb, HL.out.2.2.ext hb, ⟨hc19, hk19, hp19⟩⟩)
        clear HL hb
        have HL := HLn
        clear HLn
        clear hc19 hp19 hk19
        obtain ⟨g19, hg⟩ : ∃ q, q = W34.heap.size := ⟨_, rfl⟩
        obtain ⟨W35, hQ⟩ : ∃ q, q = (W34.alloc (.cells #[.int .i64 0, .int .i64 0, .bool false, .int .i64 0, .string { data := #[] }, .slice none 0 0, .slice none 0 0, .string { data := #[] }, .int .i64 0, .string { data := #[] }, .slice none 0 0, .int .i64 0, .int .i64 0, .int .i64 0, .bool false, .int .i64 0, .string { data := #[] }, .slice none 0 0, .slice none 0 0] 43)).setRow W34.heap.size (cdC c19) := ⟨_, rfl⟩
        have hb : Below W34.heap.size W34 W35 := by rw [hQ]; exact below_row (below_a1 _ _) (Nat.le_refl _) _
        have HLn : Hid (RcB w W35 c f ∧ CX W35 g15 c15 y15 ∧ BX W35 g17 x17 x17.v ∧ CX W35 g19 c19 y15) := Lib.hid (⟨HL.out.1.ext hb, HL.out.2.1.ext hb, HL.out.2.2.1.ext hb, ⟨by rw [hQ, hg]; exact setRow_blk (cur := #[.int .i64 0, .int .i64 0, .bool false, .int .i64 0, .string { data := #[] }, .slice none 0 0, .slice none 0 0, .string { data := #[] }, .int .i64 0, .string { data := #[] }, .slice none 0 0, .int .i64 0, .int .i64 0, .int .i64 0, .bool false, .int .i64 0, .string { data := #[] }, .slice none 0 0, .slice none 0 0]) (Blk.new rfl), HL.out.2.2.2.cat.ext hb, HL.out.2.2.2.k, HL.out.2.2.2.pos⟩⟩)
        clear HL hb
        have HL := HLn
        clear HLn
        go_upto_region 17 with ((with_reducible show wpList _ _ _ (⟨none, Op.store 43 (Operand.tmp 19) _, _, _, _, _⟩ :: _) _ _); refine store_call rfl _ _ rfl W34.heap.size c19 zeroCD rfl rfl (Blk.new rfl) ?_; rw [← hQ, ← hg]; clear hQ hg)
        refine wp_region_held_drew (S := (fun w' => Blk w' g15 (cdC c15) 43 ∧ Blk w' g19 (cdC c19) 43)) (by kernel_rfl) ?_ (fun hHeld => ?_)
        · exact ⟨HL.out.2.1.blk, HL.out.2.2.2.blk⟩
        obtain ⟨W36, hWd⟩ : ∃ q, q = W35.drew := ⟨_, rfl⟩
        rw [← hWd] at hHeld ⊢
        have HLn : Hid (RcB w W36 c f ∧ CX W36 g15 c15 y15 ∧ BX W36 g17 x17 x17.v ∧ CX W36 g19 c19 y15) := Lib.hid (by rw [hWd]; have hb := (Below.refl W35.heap.size W35).drew; exact ⟨HL.out.1.ext hb, HL.out.2.1.ext hb, HL.out.2.2.1.ext hb, HL.out.2.2.2.ext hb⟩)
        clear HL hWd
        have HL := HLn
        clear HLn
        refine wpAnyH_take (i := 0) (oi := ⟨some 98, _, _, _, _, _⟩) (v := ?_) rfl (by kernel_rfl) (by kernel_rfl) (by kernel_rfl) (fun _ _ _ h => h) (Or.inl ⟨by rfl, ?_⟩) (by assumption) ?_; rotate_left; focus (intro w hSw; (try dsimp only at hSw); refine exec_load_call (x := .tmp 15) (g := g15) (c := c15) ?_ ?_ hSw.1 <;> rfl)
        try simp only [Act.put]
        try simp only [List.setIfInBounds_toArray]
        try simp only [List.set_cons_succ, List.set_cons_zero]
        refine wpAnyH_take (i := 2) (oi := ⟨some 100, _, _, _, _, _⟩) (v := ?_) rfl (by kernel_rfl) (by kernel_rfl) (by kernel_rfl) (fun _ _ _ h => h) (Or.inl ⟨by rfl, ?_⟩) (by assumption) ?_; rotate_left; focus (intro w hSw; (try dsimp only at hSw); refine exec_load_call (x := .tmp 19) (g := g19) (c := c19) ?_ ?_ hSw.2 <;> rfl)
        try simp only [Act.put]
        try simp only [List.setIfInBounds_toArray]
        try simp only [List.set_cons_succ, List.set_cons_zero]
        refine wpAnyH_ready (rs := [1]) (by kernel_rfl) (by simp) ?_
        refine AllReadyH.cons (i := 1) (o := ⟨some 99, _, _, _, _, _⟩) rfl (fun K hK => ?_) ?_
        · go_simp
          have h1 := to04_any c15 W36 HL.out.2.1.cat (cy_sizes HL.out.2.1.k HSI.out.2.1 HSI.out.2.2.1 HSI.out.2.2.2).1 (cy_sizes HL.out.2.1.k HSI.out.2.1 HSI.out.2.2.1 HSI.out.2.2.2).2.1 (cy_sizes HL.out.2.1.k HSI.out.2.1 HSI.out.2.2.1 HSI.out.2.2.2).2.2
          refine h1.mono ?_
          clear h1
          rintro e W37 ⟨z1, rfl, hcc, hcl, hca, hb⟩
          have HLn : Hid (RcB w W37 c f ∧ CX W37 g15 c15 y15 ∧ BX W37 g17 x17 x17.v ∧ CX W37 g19 c19 y15 ∧ CY W37 z1 y15) := Lib.hid (⟨HL.out.1.ext hb, HL.out.2.1.ext hb, HL.out.2.2.1.ext hb, HL.out.2.2.2.ext hb, ⟨hca, by rw [copC_k hcc hcl]; exact HL.out.2.1.k, by rw [hcc.1]; exact HL.out.2.1.pos⟩⟩)
          clear HL hb
          have HL := HLn
          clear HLn
          clear hcc hcl hca
          refine hK.out _ _ ?_ (fun hHeld => ?_)
          · exact ⟨HL.out.2.1.blk, HL.out.2.2.2.1.blk⟩
          try simp only [Act.put]
          try simp only [List.setIfInBounds_toArray]
          try simp only [List.set_cons_succ, List.set_cons_zero]
          refine wpAnyH_ready (rs := [3]) (by kernel_rfl) (by simp) ?_
          refine AllReadyH.cons (i := 3) (o := ⟨some 101, _, _, _, _, _⟩) rfl (fun K hK => ?_) ?_
          · go_simp
            have h1 := to04_any c19 W37 HL.out.2.2.2.1.cat (cy_sizes HL.out.2.2.2.1.k HSI.out.2.1 HSI.out.2.2.1 HSI.out.2.2.2).1 (cy_sizes HL.out.2.2.2.1.k HSI.out.2.1 HSI.out.2.2.1 HSI.out.2.2.2).2.1 (cy_sizes HL.out.2.2.2.1.k HSI.out.2.1 HSI.out.2.2.1 HSI.out.2.2.2).2.2
            refine h1.mono ?_
            clear h1
            rintro e W38 ⟨z2, rfl, hcc, hcl, hca, hb⟩
            have HLn : Hid (RcB w W38 c f ∧ CX W38 g15 c15 y15 ∧ BX W38 g17 x17 x17.v ∧ CX W38 g19 c19 y15 ∧ CY W38 z1 y15 ∧ CY W38 z2 y15) := Lib.hid (⟨HL.out.1.ext hb, HL.out.2.1.ext hb, HL.out.2.2.1.ext hb, HL.out.2.2.2.1.ext hb, HL.out.2.2.2.2.ext hb, ⟨hca, by rw [copC_k hcc hcl]; exact HL.out.2.2.2.1.k, by rw [hcc.1]; exact HL.out.2.2.2.1.pos⟩⟩)
            clear HL hb
            have HL := HLn
            clear HLn
            clear hcc hcl hca
            refine hK.out _ _ ?_ (fun hHeld => ?_)
            · exact ⟨HL.out.2.1.blk, HL.out.2.2.2.1.blk⟩
            try simp only [Act.put]
            try simp only [List.setIfInBounds_toArray]
            try simp only [List.set_cons_succ, List.set_cons_zero]
            refine wpAnyH_ready (rs := [4]) (by kernel_rfl) (by simp) ?_
            refine AllReadyH.cons (i := 4) (o := ⟨some 102, _, _, _, _, _⟩) rfl (fun K hK => ?_) ?_
            · go_simp
              refine (sameC_any z1 z2 W38 HL.out.2.2.2.2.1.cat HL.out.2.2.2.2.2.cat (cy_sizes HL.out.2.2.2.2.1.k HSI.out.2.1 HSI.out.2.2.1 HSI.out.2.2.2).1 (cy_sizes HL.out.2.2.2.2.1.k HSI.out.2.1 HSI.out.2.2.1 HSI.out.2.2.2).2.1 (cy_sizes HL.out.2.2.2.2.1.k HSI.out.2.1 HSI.out.2.2.1 HSI.out.2.2.2).2.2).mono ?_
              intro e W39 h1
              obtain ⟨rfl, hb⟩ := same_true HL.out.2.2.2.2.1.k HL.out.2.2.2.2.2.k HL.out.2.2.2.2.1.pos HL.out.2.2.2.2.2.pos h1
              clear h1
              have HLn : Hid (RcB w W39 c f ∧ CX W39 g15 c15 y15 ∧ BX W39 g17 x17 x17.v ∧ CX W39 g19 c19 y15 ∧ CY W39 z1 y15 ∧ CY W39 z2 y15) := Lib.hid (⟨HL.out.1.ext hb, HL.out.2.1.ext hb, HL.out.2.2.1.ext hb, HL.out.2.2.2.1.ext hb, HL.out.2.2.2.2.1.ext hb, HL.out.2.2.2.2.2.ext hb⟩)
              clear HL hb
              have HL := HLn
              clear HLn
              refine hK.out _ _ ?_ (fun hHeld => ?_)
              · exact ⟨HL.out.2.1.blk, HL.out.2.2.2.1.blk⟩
              try simp only [Act.put]
              try simp only [List.setIfInBounds_toArray]
              try simp only [List.set_cons_succ, List.set_cons_zero]
              refine wpAnyH_take (i := 5) (oi := ⟨some 21, _, _, _, _, _⟩) (v := ?_) rfl (by kernel_rfl) (by kernel_rfl) (by kernel_rfl) (fun _ _ _ h => h) (Or.inl ⟨by rfl, ?_⟩) (by assumption) ?_; rotate_left; focus (intro w hSw; (try dsimp only at hSw); first | (go_simp; done) | (go_simp; with_reducible rfl))
              try simp only [Act.put]
              try simp only [List.setIfInBounds_toArray]
              try simp only [List.set_cons_succ, List.set_cons_zero]
              refine wpAnyH_done (by kernel_rfl) ?_ _
              clear hHeld
              have HAL := Lib.hid (live_any W39 HL.out.1.glob)
              have HB := Lib.hid HL.out.1.below
              clear HL
              go_wp2_with fail
              refine HAL.out.mono ?_
              rintro e W40 ⟨rfl, hb⟩
              have HB1 := Lib.hid (HB.out.trans (hb.mono HB.out.size))
              clear hb HAL HB
              go_wp2
              go_ret
              exact ⟨rfl, HB1.out⟩
            exact AllReadyH.nil
          exact AllReadyH.nil
        exact AllReadyH.nil
      case neg =>
        unfold wrote at h1
        rw [if_neg hr] at h1
        have H1 := Lib.hid h1
        clear h1 hr
        go_wp2_with fail
        refine H1.out.mono ?_
        clear H1
        clear e0 e1 e2 e3 e4 e5
        rintro e W41 ⟨rfl, hb⟩
        have HLn : Hid (RcB w W41 c f ∧ BX W41 gd d d.v ∧ CX W41 g9 c9 c.k) := Lib.hid (⟨HL.out.1.ext hb, HL.out.2.1.ext hb, HL.out.2.2.ext hb⟩)
        clear HL hb
        have HL := HLn
        clear HLn
        have h1 := read_any [] W41 HL.out.1.glob (by decide)
        rw [nil_read] at h1
        have H1 := Lib.hid h1
        clear h1
        go_wp2_with fail
        refine H1.out.mono ?_
        clear H1
        intro e W42 h1
        obtain ⟨rfl, -, hb⟩ := readE_err h1
        clear h1
        have HLn : Hid (RcB w W42 c f ∧ BX W42 gd d d.v ∧ CX W42 g9 c9 c.k ∧ ValAt W42 (fun _ => True) zeroD) := Lib.hid (⟨HL.out.1.ext hb, HL.out.2.1.ext hb, HL.out.2.2.ext hb, .leaf⟩)
        clear HL hb
        have HL := HLn
        clear HLn
        obtain ⟨W43, hQ⟩ : ∃ q, q = W42.alloc (.cells #[.int .i64 0, .bool false, .int .i64 0, .string { data := #[] }, .slice none 0 0, .slice none 0 0] 36) := ⟨_, rfl⟩
        have hb : Below W42.heap.size W42 W43 := by rw [hQ]; exact below_a1 _ _
        have HLn : Hid (RcB w W43 c f ∧ BX W43 gd d d.v ∧ CX W43 g9 c9 c.k ∧ ValAt W43 (fun _ => True) zeroD) := Lib.hid (⟨HL.out.1.ext hb, HL.out.2.1.ext hb, HL.out.2.2.1.ext hb, HL.out.2.2.2.ext hb⟩)
        clear HL hb
        have HL := HLn
        clear HLn
        go_upto_region 10 with (fail)
        rw [← hQ]
        clear hQ
        go_upto_region 12 with (fail)
        have HX0 : Hid (RcB w W43 c f) := Lib.hid HL.out.1
        clear HL
        have HL := HX0
        clear HX0
        have h1 := ofU_any HL.out.vb HFS.out
        have H1 := Lib.hid h1
        clear h1
        obtain ⟨e0, e1, e2, e3, e4, e5⟩ := HL.out.two.sixT
        go_wp2_with fail
        refine H1.out.mono ?_
        clear H1
        clear e0 e1 e2 e3 e4 e5
        rintro e W44 ⟨q, rfl, hqv, hqa, hb⟩
        have HLn : Hid (RcB w W44 c f ∧ ValAt W44 (fun _ => True) q) := Lib.hid (⟨HL.out.ext hb, hqa⟩)
        clear HL hb
        have HL := HLn
        clear HLn
        have HQV := Lib.hid hqv
        clear hqv hqa
        have h1 := msg_any q W44 HL.out.2 (by rw [HQV.out]; exact HFS.out)
        rw [VD.val6, HQV.out] at h1
        unfold MsgE at h1
        obtain ⟨n15, hn15⟩ : ∃ n, n = (readC f.v).1 := ⟨_, rfl⟩
        obtain ⟨y15, hy15⟩ : ∃ n, n = (readC f.v).2 := ⟨_, rfl⟩
        rw [← hn15, ← hy15] at h1
        have HRD : Hid (readC f.v = (n15, y15)) := Lib.hid (by rw [hn15, hy15])
        have H1 := Lib.hid h1
        clear h1 hn15 hy15
        go_wp2_with fail
        refine H1.out.mono ?_
        clear H1
        rintro e W45 ⟨c15, rfl, hc15, hp15, hk15, hb⟩
        have HLn : Hid (RcB w W45 c f ∧ CY W45 c15 y15) := Lib.hid (⟨HL.out.1.ext hb, ⟨hc15, hk15, hp15⟩⟩)
        clear HL hb
        have HL := HLn
        clear HLn
        clear hc15 hp15 hk15 HQV
        obtain ⟨g15, hg⟩ : ∃ q, q = W45.heap.size := ⟨_, rfl⟩
        obtain ⟨W46, hQ⟩ : ∃ q, q = (W45.alloc (.cells #[.int .i64 0, .int .i64 0, .bool false, .int .i64 0, .string { data := #[] }, .slice none 0 0, .slice none 0 0, .string { data := #[] }, .int .i64 0, .string { data := #[] }, .slice none 0 0, .int .i64 0, .int .i64 0, .int .i64 0, .bool false, .int .i64 0, .string { data := #[] }, .slice none 0 0, .slice none 0 0] 43)).setRow W45.heap.size (cdC c15) := ⟨_, rfl⟩
        have hb : Below W45.heap.size W45 W46 := by rw [hQ]; exact below_row (below_a1 _ _) (Nat.le_refl _) _
        have HLn : Hid (RcB w W46 c f ∧ CX W46 g15 c15 y15) := Lib.hid (⟨HL.out.1.ext hb, ⟨by rw [hQ, hg]; exact setRow_blk (cur := #[.int .i64 0, .int .i64 0, .bool false, .int .i64 0, .string { data := #[] }, .slice none 0 0, .slice none 0 0, .string { data := #[] }, .int .i64 0, .string { data := #[] }, .slice none 0 0, .int .i64 0, .int .i64 0, .int .i64 0, .bool false, .int .i64 0, .string { data := #[] }, .slice none 0 0, .slice none 0 0]) (Blk.new rfl), HL.out.2.cat.ext hb, HL.out.2.k, HL.out.2.pos⟩⟩)
        clear HL hb
        have HL := HLn
        clear HLn
        go_upto_region 13 with ((with_reducible show wpList _ _ _ (⟨none, Op.store 43 (Operand.tmp 15) _, _, _, _, _⟩ :: _) _ _); refine store_call rfl _ _ rfl W45.heap.size c15 zeroCD rfl rfl (Blk.new rfl) ?_; rw [← hQ, ← hg]; clear hQ hg)
        by_cases hn0 : n15 = 0
        case neg =>
          have hn1 : (n15 == 0) = false := by simpa using hn0
          clear hn0
          have HAL := Lib.hid (live_any W46 HL.out.1.glob)
          have HB := Lib.hid HL.out.1.below
          go_wp2_with fail
          refine HAL.out.mono ?_
          rintro e Wz13 ⟨rfl, hb⟩
          have HB1 := Lib.hid (HB.out.trans (hb.mono HB.out.size))
          clear hb HAL HB
          go_wp2
          go_ret
          exact ⟨rfl, HB1.out⟩
        subst hn0
        have HSI := Lib.hid (read_sizes HRD.out HFZ.out)
        go_wp2_with ((with_reducible show wpList _ _ _ (⟨some 89, _, _, _, _, _⟩ :: _) _ _); refine load_call rfl _ rfl g15 rfl c15 HL.out.2.blk ?_)
        have h1 := write_call c15 W46 HL.out.2.cat (by rw [HL.out.2.k]; exact HSI.out.1) (cy_sizes HL.out.2.k HSI.out.2.1 HSI.out.2.2.1 HSI.out.2.2.2).1 (cy_sizes HL.out.2.k HSI.out.2.1 HSI.out.2.2.1 HSI.out.2.2.2).2.1 (cy_sizes HL.out.2.k HSI.out.2.1 HSI.out.2.2.1 HSI.out.2.2.2).2.2
        refine h1.mono ?_
        clear h1
        rintro e W47 ⟨x17, n17, rfl, hok, -, hxa, hb⟩
        obtain ⟨rfl, hxv⟩ := hok (read_wr HRD.out HL.out.2.k HL.out.2.pos)
        rw [HL.out.2.k] at hxv
        have HXV := Lib.hid hxv
        clear hok hxv
        have HLn : Hid (RcB w W47 c f ∧ CX W47 g15 c15 y15 ∧ ValAt W47 (fun _ => True) x17) := Lib.hid (⟨HL.out.1.ext hb, HL.out.2.ext hb, hxa⟩)
        clear HL hb
        have HL := HLn
        clear HLn
        clear hxa
        obtain ⟨g17, hg⟩ : ∃ q, q = W47.heap.size := ⟨_, rfl⟩
        obtain ⟨W48, hQ⟩ : ∃ q, q = W47.alloc (.cells #[.int .i64 x17.sort, .bool x17.on, .int .i64 x17.n, .string ⟨x17.text.toArray⟩, .slice x17.a x17.list.length x17.c, .slice x17.ka x17.keys.length x17.kc] 36) := ⟨_, rfl⟩
        have hb : Below W47.heap.size W47 W48 := by rw [hQ]; exact below_a1 _ _
        have HLn : Hid (RcB w W48 c f ∧ CX W48 g15 c15 y15 ∧ BX W48 g17 x17 x17.v) := Lib.hid (⟨HL.out.1.ext hb, HL.out.2.1.ext hb, by rw [hQ, hg]; exact BX.new HL.out.2.2 rfl⟩)
        clear HL hb
        have HL := HLn
        clear HLn
        go_upto_region 16 with (fail)
        rw [← hQ, ← hg]
        clear hQ hg
        have h1 := msg_any x17 W48 HL.out.2.2.val (by rw [HXV.out]; exact HSI.out.1)
        rw [VD.val6, HXV.out] at h1
        unfold MsgE at h1
        rw [told_back (readC_told HRD.out)] at h1
        have H1 := Lib.hid h1
        clear h1
        obtain ⟨e0, e1, e2, e3, e4, e5⟩ := HL.out.2.2.blk.sixT
        go_wp2_with fail
        refine H1.out.mono ?_
        clear H1
        clear e0 e1 e2 e3 e4 e5
        rintro e W49 ⟨c19, rfl, hc19, hp19, hk19, hb⟩
        have HLn : Hid (RcB w W49 c f ∧ CX W49 g15 c15 y15 ∧ BX W49 g17 x17 x17.v ∧ CY W49 c19 y15) := Lib.hid (⟨HL.out.1.ext hb, HL.out.2.1.ext hb, HL.out.2.2.ext hb, ⟨hc19, hk19, hp19⟩⟩)
        clear HL hb
        have HL := HLn
        clear HLn
        clear hc19 hp19 hk19
        obtain ⟨g19, hg⟩ : ∃ q, q = W49.heap.size := ⟨_, rfl⟩
        obtain ⟨W50, hQ⟩ : ∃ q, q = (W49.alloc (.cells #[.int .i64 0, .int .i64 0, .bool false, .int .i64 0, .string { data := #[] }, .slice none 0 0, .slice none 0 0, .string { data := #[] }, .int .i64 0, .string { data := #[] }, .slice none 0 0, .int .i64 0, .int .i64 0, .int .i64 0, .bool false, .int .i64 0, .string { data := #[] }, .slice none 0 0, .slice none 0 0] 43)).setRow W49.heap.size (cdC c19) := ⟨_, rfl⟩
        have hb : Below W49.heap.size W49 W50 := by rw [hQ]; exact below_row (below_a1 _ _) (Nat.le_refl _) _
        have HLn : Hid (RcB w W50 c f ∧ CX W50 g15 c15 y15 ∧ BX W50 g17 x17 x17.v ∧ CX W50 g19 c19 y15) := Lib.hid (⟨HL.out.1.ext hb, HL.out.2.1.ext hb, HL.out.2.2.1.ext hb, ⟨by rw [hQ, hg]; exact setRow_blk (cur := #[.int .i64 0, .int .i64 0, .bool false, .int .i64 0, .string { data := #[] }, .slice none 0 0, .slice none 0 0, .string { data := #[] }, .int .i64 0, .string { data := #[] }, .slice none 0 0, .int .i64 0, .int .i64 0, .int .i64 0, .bool false, .int .i64 0, .string { data := #[] }, .slice none 0 0, .slice none 0 0]) (Blk.new rfl), HL.out.2.2.2.cat.ext hb, HL.out.2.2.2.k, HL.out.2.2.2.pos⟩⟩)
        clear HL hb
        have HL := HLn
        clear HLn
        go_upto_region 17 with ((with_reducible show wpList _ _ _ (⟨none, Op.store 43 (Operand.tmp 19) _, _, _, _, _⟩ :: _) _ _); refine store_call rfl _ _ rfl W49.heap.size c19 zeroCD rfl rfl (Blk.new rfl) ?_; rw [← hQ, ← hg]; clear hQ hg)
        refine wp_region_held_drew (S := (fun w' => Blk w' g15 (cdC c15) 43 ∧ Blk w' g19 (cdC c19) 43)) (by kernel_rfl) ?_ (fun hHeld => ?_)
        · exact ⟨HL.out.2.1.blk, HL.out.2.2.2.blk⟩
        obtain ⟨W51, hWd⟩ : ∃ q, q = W50.drew := ⟨_, rfl⟩
        rw [← hWd] at hHeld ⊢
        have HLn : Hid (RcB w W51 c f ∧ CX W51 g15 c15 y15 ∧ BX W51 g17 x17 x17.v ∧ CX W51 g19 c19 y15) := Lib.hid (by rw [hWd]; have hb := (Below.refl W50.heap.size W50).drew; exact ⟨HL.out.1.ext hb, HL.out.2.1.ext hb, HL.out.2.2.1.ext hb, HL.out.2.2.2.ext hb⟩)
        clear HL hWd
        have HL := HLn
        clear HLn
        refine wpAnyH_take (i := 0) (oi := ⟨some 98, _, _, _, _, _⟩) (v := ?_) rfl (by kernel_rfl) (by kernel_rfl) (by kernel_rfl) (fun _ _ _ h => h) (Or.inl ⟨by rfl, ?_⟩) (by assumption) ?_; rotate_left; focus (intro w hSw; (try dsimp only at hSw); refine exec_load_call (x := .tmp 15) (g := g15) (c := c15) ?_ ?_ hSw.1 <;> rfl)
        try simp only [Act.put]
        try simp only [List.setIfInBounds_toArray]
        try simp only [List.set_cons_succ, List.set_cons_zero]
        refine wpAnyH_take (i := 2) (oi := ⟨some 100, _, _, _, _, _⟩) (v := ?_) rfl (by kernel_rfl) (by kernel_rfl) (by kernel_rfl) (fun _ _ _ h => h) (Or.inl ⟨by rfl, ?_⟩) (by assumption) ?_; rotate_left; focus (intro w hSw; (try dsimp only at hSw); refine exec_load_call (x := .tmp 19) (g := g19) (c := c19) ?_ ?_ hSw.2 <;> rfl)
        try simp only [Act.put]
        try simp only [List.setIfInBounds_toArray]
        try simp only [List.set_cons_succ, List.set_cons_zero]
        refine wpAnyH_ready (rs := [1]) (by kernel_rfl) (by simp) ?_
        refine AllReadyH.cons (i := 1) (o := ⟨some 99, _, _, _, _, _⟩) rfl (fun K hK => ?_) ?_
        · go_simp
          have h1 := to04_any c15 W51 HL.out.2.1.cat (cy_sizes HL.out.2.1.k HSI.out.2.1 HSI.out.2.2.1 HSI.out.2.2.2).1 (cy_sizes HL.out.2.1.k HSI.out.2.1 HSI.out.2.2.1 HSI.out.2.2.2).2.1 (cy_sizes HL.out.2.1.k HSI.out.2.1 HSI.out.2.2.1 HSI.out.2.2.2).2.2
          refine h1.mono ?_
          clear h1
          rintro e W52 ⟨z1, rfl, hcc, hcl, hca, hb⟩
          have HLn : Hid (RcB w W52 c f ∧ CX W52 g15 c15 y15 ∧ BX W52 g17 x17 x17.v ∧ CX W52 g19 c19 y15 ∧ CY W52 z1 y15) := Lib.hid (⟨HL.out.1.ext hb, HL.out.2.1.ext hb, HL.out.2.2.1.ext hb, HL.out.2.2.2.ext hb, ⟨hca, by rw [copC_k hcc hcl]; exact HL.out.2.1.k, by rw [hcc.1]; exact HL.out.2.1.pos⟩⟩)
          clear HL hb
          have HL := HLn
          clear HLn
          clear hcc hcl hca
          refine hK.out _ _ ?_ (fun hHeld => ?_)
          · exact ⟨HL.out.2.1.blk, HL.out.2.2.2.1.blk⟩
          try simp only [Act.put]
          try simp only [List.setIfInBounds_toArray]
          try simp only [List.set_cons_succ, List.set_cons_zero]
          refine wpAnyH_ready (rs := [3]) (by kernel_rfl) (by simp) ?_
          refine AllReadyH.cons (i := 3) (o := ⟨some 101, _, _, _, _, _⟩) rfl (fun K hK => ?_) ?_
          · go_simp
            have h1 := to04_any c19 W52 HL.out.2.2.2.1.cat (cy_sizes HL.out.2.2.2.1.k HSI.out.2.1 HSI.out.2.2.1 HSI.out.2.2.2).1 (cy_sizes HL.out.2.2.2.1.k HSI.out.2.1 HSI.out.2.2.1 HSI.out.2.2.2).2.1 (cy_sizes HL.out.2.2.2.1.k HSI.out.2.1 HSI.out.2.2.1 HSI.out.2.2.2).2.2
            refine h1.mono ?_
            clear h1
            rintro e W53 ⟨z2, rfl, hcc, hcl, hca, hb⟩
            have HLn : Hid (RcB w W53 c f ∧ CX W53 g15 c15 y15 ∧ BX W53 g17 x17 x17.v ∧ CX W53 g19 c19 y15 ∧ CY W53 z1 y15 ∧ CY W53 z2 y15) := Lib.hid (⟨HL.out.1.ext hb, HL.out.2.1.ext hb, HL.out.2.2.1.ext hb, HL.out.2.2.2.1.ext hb, HL.out.2.2.2.2.ext hb, ⟨hca, by rw [copC_k hcc hcl]; exact HL.out.2.2.2.1.k, by rw [hcc.1]; exact HL.out.2.2.2.1.pos⟩⟩)
            clear HL hb
            have HL := HLn
            clear HLn
            clear hcc hcl hca
            refine hK.out _ _ ?_ (fun hHeld => ?_)
            · exact ⟨HL.out.2.1.blk, HL.out.2.2.2.1.blk⟩
            try simp only [Act.put]
            try simp only [List.setIfInBounds_toArray]
            try simp only [List.set_cons_succ, List.set_cons_zero]
            refine wpAnyH_ready (rs := [4]) (by kernel_rfl) (by simp) ?_
            refine AllReadyH.cons (i := 4) (o := ⟨some 102, _, _, _, _, _⟩) rfl (fun K hK => ?_) ?_
            · go_simp
              refine (sameC_any z1 z2 W53 HL.out.2.2.2.2.1.cat HL.out.2.2.2.2.2.cat (cy_sizes HL.out.2.2.2.2.1.k HSI.out.2.1 HSI.out.2.2.1 HSI.out.2.2.2).1 (cy_sizes HL.out.2.2.2.2.1.k HSI.out.2.1 HSI.out.2.2.1 HSI.out.2.2.2).2.1 (cy_sizes HL.out.2.2.2.2.1.k HSI.out.2.1 HSI.out.2.2.1 HSI.out.2.2.2).2.2).mono ?_
              intro e W54 h1
              obtain ⟨rfl, hb⟩ := same_true HL.out.2.2.2.2.1.k HL.out.2.2.2.2.2.k HL.out.2.2.2.2.1.pos HL.out.2.2.2.2.2.pos h1
              clear h1
              have HLn : Hid (RcB w W54 c f ∧ CX W54 g15 c15 y15 ∧ BX W54 g17 x17 x17.v ∧ CX W54 g19 c19 y15 ∧ CY W54 z1 y15 ∧ CY W54 z2 y15) := Lib.hid (⟨HL.out.1.ext hb, HL.out.2.1.ext hb, HL.out.2.2.1.ext hb, HL.out.2.2.2.1.ext hb, HL.out.2.2.2.2.1.ext hb, HL.out.2.2.2.2.2.ext hb⟩)
              clear HL hb
              have HL := HLn
              clear HLn
              refine hK.out _ _ ?_ (fun hHeld => ?_)
              · exact ⟨HL.out.2.1.blk, HL.out.2.2.2.1.blk⟩
              try simp only [Act.put]
              try simp only [List.setIfInBounds_toArray]
              try simp only [List.set_cons_succ, List.set_cons_zero]
              refine wpAnyH_take (i := 5) (oi := ⟨some 21, _, _, _, _, _⟩) (v := ?_) rfl (by kernel_rfl) (by kernel_rfl) (by kernel_rfl) (fun _ _ _ h => h) (Or.inl ⟨by rfl, ?_⟩) (by assumption) ?_; rotate_left; focus (intro w hSw; (try dsimp only at hSw); first | (go_simp; done) | (go_simp; with_reducible rfl))
              try simp only [Act.put]
              try simp only [List.setIfInBounds_toArray]
              try simp only [List.set_cons_succ, List.set_cons_zero]
              refine wpAnyH_done (by kernel_rfl) ?_ _
              clear hHeld
              have HAL := Lib.hid (live_any W54 HL.out.1.glob)
              have HB := Lib.hid HL.out.1.below
              clear HL
              go_wp2_with fail
              refine HAL.out.mono ?_
              rintro e W55 ⟨rfl, hb⟩
              have HB1 := Lib.hid (HB.out.trans (hb.mono HB.out.size))
              clear hb HAL HB
              go_wp2
              go_ret
              exact ⟨rfl, HB1.out⟩
            exact AllReadyH.nil
          exact AllReadyH.nil
        exact AllReadyH.nil
    exact AllReadyH.nil
  exact AllReadyH.nil
end Go.Proofs.YthnbeebilomchaaGreatDoor

namespace Go.Proofs.YthnbeebilomchaaGreatDoor
open Go Go.RowKit Go.ChangeShapes Go.WideShapes Go.ChangeAt

theorem Tryz.ownL : ownKnob Tryz.prog.godebug = none := by kernel_rfl
def laidAll : List (String × DataW Unit) := [("math/bits.deBruijn32tab", Rows.laid_math_bits_deBruijn32tab), ("math/bits.deBruijn64tab", Rows.laid_math_bits_deBruijn64tab), ("internal/strconv.uint64pow10", Rows.laid_internal_strconv_uint64pow10), ("unicode/utf8.acceptRanges", Rows.laid_unicode_utf8_acceptRanges), ("strconv.ErrRange", Rows.laid_strconv_ErrRange), ("strconv.ErrSyntax", Rows.laid_strconv_ErrSyntax), ("unicode/utf8.first", Rows.laid_unicode_utf8_first)]

theorem Tryz.star : "*" ++ "errors.errorString" = "*errors.errorString" := by decide
theorem Tryz.errRow (u : TypeId) (h : Tryz.prog.typeName? 3 u = some "*errors.errorString") : u = 225 :=
  typeName_ptr_named (nm := "errors.errorString") (by rw [Tryz.star]; kernel_rfl) (by kernel_rfl) (by decide) u (by rw [Tryz.star]; exact h)

theorem glob_of {W : World} (h : laidMetH Tryz.prog laidAll W) : Glob W := by
  rw [MakeChecks.laidMetH_plain _ _ _ (by kernel_rfl)] at h
  have h2 := h.tail.tail
  have h4 := h2.tail.tail
  have h5 := h4.tail
  have htab : Lib.TabIs Tryz.prog W "internal/strconv.uint64pow10" .u64 Lib.pow10Tab :=
    Lib.tabIs_of_head Tryz.gTab (by kernel_rfl) Tryz.underlying202 Tryz.underlying175 (by kernel_rfl) (by kernel_rfl) h2
  obtain ⟨a1, s1, hv1, -⟩ := laid_sentinel h4 Tryz.gRng (by kernel_rfl) Tryz.underlying148 Tryz.errRow Tryz.underlying225 Tryz.underlying227 rfl rfl Tryz.underlying9 (by kernel_rfl) (by kernel_rfl)
  obtain ⟨a2, s2, hv2, -⟩ := laid_sentinel h5 Tryz.gSyn (by kernel_rfl) Tryz.underlying148 Tryz.errRow Tryz.underlying225 Tryz.underlying227 rfl rfl Tryz.underlying9 (by kernel_rfl) (by kernel_rfl)
  have r1 : Lib.VarReads Tryz.prog W "unicode/utf8.first" Lib.firstData := by
    rw [show Lib.firstData = Rows.laid_unicode_utf8_first by kernel_rfl]
    exact Lib.laidMet.reads h (.tail _ (.tail _ (.tail _ (.tail _ (.tail _ (.tail _ (.head _)))))))
  have r2 : Lib.VarReads Tryz.prog W "unicode/utf8.acceptRanges" Lib.acceptData := by
    rw [show Lib.acceptData = Rows.laid_unicode_utf8_acceptRanges by kernel_rfl]
    exact Lib.laidMet.reads h (.tail _ (.tail _ (.tail _ (.head _))))
  have hutf : Lib.Utf8Tabs (Tryz.laysValid_ren.g 3) (Tryz.laysValid_ren.g 4) W :=
    utf8Tabs_of_readsT (U8Types.of196 Tryz.laysValid) ⟨by kernel_rfl, by kernel_rfl, by kernel_rfl, by kernel_rfl, by kernel_rfl, by kernel_rfl, by kernel_rfl⟩ r1 r2
  refine ⟨⟨_, _, hv2⟩, ⟨_, _, hv1⟩, htab, hutf, ?_⟩
  obtain ⟨g, t, cs, fuel, p, -, -, hv, -⟩ := Lib.laidMet.reads h (n := "math/bits.deBruijn64tab") (d := Rows.laid_math_bits_deBruijn64tab) (.tail _ (.head _))
  unfold World.var? at hv
  rw [show Tryz.prog.globalNamed "math/bits.deBruijn64tab" = some 7 by kernel_rfl, Option.bind_some] at hv
  split at hv
  · rename_i hh
    exact (Array.getElem?_eq_some_iff.1 hh).1
  · cases hv
end Go.Proofs.YthnbeebilomchaaGreatDoor

namespace Go.Proofs.YthnbeebilomchaaGreatDoor
open Go Go.RowKit Go.ChangeAt Go.ChangeShapes Go.WideShapes

theorem Tryz.laidOutV : laidOutB Tryz.prog = true := by kernel_rfl
def zeroDoc : Value := .agg #[.int .i64 0, .bool false, .int .i64 0, .string ⟨#[]⟩, .slice none 0 0, .slice none 0 0]
def zeroRead {H : Type} : DataW H := .agg [.lit (.int .i64 0), .lit (.bool false), .lit (.int .i64 0), .lit (.string []), .nil, .nil]
def zeroCallR : Value := .agg #[.int .i64 0, .int .i64 0, .bool false, .int .i64 0, .string ⟨#[]⟩, .slice none 0 0, .slice none 0 0, .string ⟨#[]⟩, .int .i64 0, .string ⟨#[]⟩, .slice none 0 0, .int .i64 0, .int .i64 0, .int .i64 0, .bool false, .int .i64 0, .string ⟨#[]⟩, .slice none 0 0, .slice none 0 0]
def zeroReadC {H : Type} : DataW H := .agg [.lit (.int .i64 0), zeroRead, .lit (.string []), .lit (.int .i64 0), .lit (.string []), .nil, .agg [.lit (.int .i64 0), .lit (.int .i64 0)], zeroRead]
theorem backC_row {H : Type} (os : Os) (enc : TypeId × Value → H) : (Rows.OpenSpec.upto Rows.rpcBackSpec).preRow enc Tryz.prog Tryz.f5 Rows.rpcBackUptoRow.domain false laidAll ((World.laidAll Tryz.prog os laidAll).forCall (fun _ _ => 0) ⟨#[], #[zeroCallR, zeroDoc], []⟩).memory #[zeroCallR, zeroDoc] := by
  have hx : DataW.whole enc Tryz.prog ((World.laidAll Tryz.prog os laidAll).forCall (fun _ _ => 0) ⟨#[], #[zeroCallR, zeroDoc], []⟩).memory Tryz.f5.params.toList (Rows.OpenSpec.upto Rows.rpcBackSpec).vars false #[zeroCallR, zeroDoc].toList 8 = some ([zeroReadC, zeroRead], [], []) := by kernel_rfl
  exact OpenSpec.preRow_of_cond 8 hx (by kernel_rfl) (fun k hk => by cases hk; rfl) (by kernel_rfl) (by rw [MakeChecks.laidMetH_plain _ _ _ (by kernel_rfl)]; exact laidMet_laidAll _ (by kernel_rfl) (by kernel_rfl))

set_option maxRecDepth 100000 in
set_option maxHeartbeats 2000000 in
theorem backC_lifted (os : Os) (started : os.Started) (H : Type) (enc : TypeId × Value → H) (F : Stop.Interp) :
    ReturnsInHanded {} Tryz.checked os 5 .any ((Rows.OpenSpec.upto Rows.rpcBackSpec).preRow enc Tryz.prog Tryz.f5 Rows.rpcBackUptoRow.domain false laidAll) (((Rows.OpenSpec.upto Rows.rpcBackSpec).at F).post enc Tryz.prog Tryz.f5 false true false false) := by
  refine returnsInHanded_of_row (C := Tryz.checked) (s := Rows.OpenSpec.upto Rows.rpcBackSpec) Tryz.ownL started (by kernel_rfl) Tryz.func5
    ⟨World.laidAll Tryz.prog os laidAll, fun _ _ => 0, ⟨#[], #[zeroCallR, zeroDoc], []⟩, World.laidAll_os _ _ _, World.shaped_of_ZipB (by kernel_rfl) (by kernel_rfl), rfl, (Input.okWide_of_okWideB (by kernel_rfl)).2, backC_row os enc, by
      simp only [Assume.holds]
      exact ⟨by simp, by simp, fun _ => Modest.zero, by simp, by simp⟩⟩ ?_
  intro W base args ds gs before hval0 hW _ hk _ hL _ _
  have hW' := hW
  obtain ⟨p, q, hA0, hV, rfl, hfz, hnd⟩ := hW
  have hA : DataW.TrodAll enc Tryz.prog W 0 (fun _ => true) true Tryz.f5.params.toList args.toList ds p := hA0
  have hval : ∀ (j : Nat) t v, Tryz.f5.params[j]? = some t → args[j]? = some v → Value.okWide Tryz.prog W .any base t v := hval0
  rw [Tryz.params5] at hA hval
  obtain ⟨v0, v1, d0, d1, p0, p1, rfl, rfl, rfl, h0, h1⟩ := trodAll_two hA
  obtain ⟨rfl, rfl⟩ := trodVars_none hV
  have hlt0 : ∀ x ∈ p0, x.block < W.heap.size := fun x hx => hW'.lt x (by simp [hx])
  have hlt1 : ∀ x ∈ p1, x.block < W.heap.size := fun x hx => hW'.lt x (by simp [hx])
  have hk' : Rows.uptoBulkAll [d0, d1] ≤ 1048576 := of_decide_eq_true (hk _ rfl)
  rw [bulk_cons, bulk_cons] at hk'
  obtain ⟨cs0, rfl, -⟩ := okWide_struct Tryz.underlying31 (hval 0 31 v0 rfl rfl)
  obtain ⟨f0, h0'⟩ := h0
  obtain ⟨x, hx0, hp0, hw0⟩ := open_call f0 cs0.toList _ h0'
  have hb0 : bulkC x ≤ 1048576 := by
    have : bulkC x ≤ Rows.uptoBulk d0 := hw0
    omega
  have hcs0 : (Value.agg cs0) = x.val := by rw [cdC_val]; exact congrArg Value.agg (Array.ext' hx0)
  obtain ⟨cs1, rfl, -⟩ := okWide_struct Tryz.underlying26 (hval 1 26 v1 rfl rfl)
  obtain ⟨f1, h1'⟩ := h1
  obtain ⟨y, hx1, hp1, hw1⟩ := open_doc f1 cs1.toList _ h1'
  have hb1 : sizeV y.v ≤ 1048576 := by
    have : sizeV y.v ≤ Rows.uptoBulk d1 := hw1
    omega
  have hcs1 : (Value.agg cs1) = y.val := by unfold VD.val; rw [← hx1]
  clear hA0 hval0
  rw [hcs0]
  rw [hcs1]
  refine (backC_any x y W (glob_of hL) hp0 hp1 hb0 hb1).mono fun e W' hres => ?_
  obtain ⟨rfl, hb⟩ := hres
  have t0 := Below.trod Tryz.laidOutV (by kernel_rfl) (of_decide_eq_true (by kernel_rfl)) ⟨f0, h0'⟩ hb hlt0
  rw [hcs0] at t0
  have t1 := Below.trod Tryz.laidOutV (by kernel_rfl) (of_decide_eq_true (by kernel_rfl)) ⟨f1, h1'⟩ hb hlt1
  rw [hcs1] at t1
  rw [hcs0, hcs1] at hW'
  refine ⟨_, rfl, _, _, _, [], p0 ++ p1, [], hW', ?_, ?_, ?_, hb.frame _, fun h => by cases h⟩
  · exact trodAll_mk1 (shut_bool Tryz.underlying4 true)
  · exact trodAll_mk2 t0 t1
  · rfl

theorem backC_holds : Rows.RpcBackUptoSaid :=
  OpenClaim.holds_of_cond 5 Tryz.f5 rfl rfl rfl rfl rfl rfl rfl ⟨rfl, rfl, rfl, rfl, rfl⟩ rfl rfl rfl rfl rfl (by kernel_rfl) Tryz.func5 (by kernel_rfl)
    (of_decide_eq_true (by kernel_rfl)) (by unfold Func.isWrapper; first | (rw [if_pos (by decide +kernel)]; kernel_rfl) | (rw [if_neg (by decide +kernel)]; exact ⟨rfl, rfl⟩))
    (fun os started H enc _ F => by rw [OpenClaim.pre_eq_preRow]; exact backC_lifted os started H enc F)

theorem backC_card : Rows.RpcBackUptoCardSaid :=
  Claim7.holds_tied_plain_at .later [] [.data, .data, .data, .data, .sentinel, .sentinel, .pinned] true (true, "53642fa45f886c356ad79fcdf48b1b3fb671cf86e0779d40d62ae12111470f8b") true backC_holds (fun _ h => by cases h) (by kernel_rfl) (fun _ h => by cases h) rpcBackUpto_row_tie rfl ⟨rfl, rfl⟩ (by kernel_rfl) rfl
    (fun f fn hf hfn => by
      obtain rfl : f = 5 := Option.some.inj ((show Tryz.prog.funcNamed "bolthole/boltholelaw04.RpcBack" = some 5 by kernel_rfl).symm.trans hf) |>.symm
      obtain rfl : fn = Tryz.f5 := (Option.some.inj (Tryz.func5.symm.trans hfn)).symm
      exact ⟨by kernel_rfl, fun j t ht => by
        rw [Tryz.params5] at ht
        have hm : t ∈ [31, 26] := by simpa using Array.mem_of_getElem? ht
        have hall : ([31, 26].all fun u => !Tryz.prog.wantsStandIn u) = true := by kernel_rfl
        exact (show Tryz.prog.wantsStandIn t = false by simpa using List.all_eq_true.1 hall t hm)⟩)
    (by kernel_rfl)
end Go.Proofs.YthnbeebilomchaaGreatDoor
