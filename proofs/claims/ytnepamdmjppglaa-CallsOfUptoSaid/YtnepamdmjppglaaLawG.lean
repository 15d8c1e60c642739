/- The law on groups, who reaches, and whether a node reaches itself: walked. -/
import Derived.Test.YtnepamdmjppglaaSame
namespace Go.Proofs.Ytnepamdmjppglaa
open Go Go.RowKit

set_option maxHeartbeats 4000000 in
set_option maxRecDepth 20000 in
theorem lawG_any (a an : Option Addr) (c cn : Nat) (l : List NodeD) (st : List Nm) (w : World) (hn : NodesAt w a l) (hl : SmallN l) (hs : Row w 1 an st.length (st.map strV)) (hsl : st.length ≤ 1048576) (hsn : ∀ n ∈ st, n.length ≤ maxLen) :
    Calls Try.prog 4 #[.slice a l.length c, .slice an st.length cn] w (Ret w fun v _ => v = .bool true) := by
  have hlen : l.length ≤ 1048576 := hl.len
  have hcl : ∀ d ∈ l, d.calls.length ≤ 1048576 := fun d hd => by have := total_mem hd; have := hl.tot; unfold M20 at this; omega
  have hfits := fits_any a c l w hn hlen hcl
  have HN := Lib.hid hn
  have HL := Lib.hid hl
  have HS := Lib.hid hs
  have HSN := Lib.hid hsn
  have H14 : Hid (∀ W, Below w.heap.size w W → Calls Try.prog 14 #[.slice a l.length c] W (Ret W fun v w' => ∃ a' c', v = .slice a' l.length c' ∧ NodesAt w' a' l)) := Lib.hid fun W hb => nodes_any a c l W (hn.ext hb) hlen
  have H8 : Hid (∀ W, Calls Try.prog 8 #[] W (Ret W fun v _ => v = .bool true)) := Lib.hid alive_any
  have H15 : Hid (∀ x W, Below w.heap.size w W → Calls Try.prog 15 #[.slice a l.length c, .string ⟨x.toArray⟩] W (Ret W fun v w' => IsB (∃ y ∈ G l x, Rch (G l) y x) v w')) := Lib.hid fun x W hb => roundR_any a c l x W (hn.ext hb) hl
  clear hn hl hs hsn hcl
  go_enter Try.func4, Try.ntmps4
  go_wp2_with fail
  refine hfits.mono ?_
  clear hfits
  rintro e w1 ⟨_, rfl, hb1, bf, rfl⟩
  have Hb1 := Lib.hid hb1
  clear hb1
  cases bf
  · go_wp2_with fail
    refine (H8.out w1).mono ?_
    rintro e w2 ⟨_, rfl, hb2, rfl⟩
    go_wp2
    go_ret
    exact ⟨_, rfl, Hb1.out.trans (hb2.mono Hb1.out.size), rfl⟩
  · by_cases hlong : 30 < st.length
    · go_wp2_with fail
      refine (H8.out w1).mono ?_
      rintro e w2 ⟨_, rfl, hb2, rfl⟩
      go_wp2
      go_ret
      exact ⟨_, rfl, Hb1.out.trans (hb2.mono Hb1.out.size), rfl⟩
    · go_wp2_with fail
      go_loopw [6] (fun i wq => ∃ k : Nat, k ≤ st.length ∧ i = .int .i64 k ∧ Hid (Below w.heap.size w wq)) (fun i _ => st.length - (intOf i).toNat)
      case atStart => exact ⟨0, Nat.zero_le _, rfl, Hb1⟩
      case round =>
        obtain ⟨k, hk, rfl, hb⟩ := hrel
        by_cases hlt : k < st.length
        · obtain ⟨x, hx⟩ := get_some hlt
          obtain ⟨nb, no, rfl, c0⟩ := str_at (HS.out.ext hb.out) hx
          have Hxl : Hid (x.length ≤ maxLen) := Lib.hid (HSN.out x (List.mem_of_getElem? hx))
          have hcur : Hid (Below w.heap.size w wr.drew) := Lib.hid hb.out.drew
          clear hx
          go_wp2_with fail
          refine wp_region_held_drew (S := fun w' => w'.cell? ⟨nb, no + k, none⟩ = some (.string ⟨x.toArray⟩)) (by kernel_rfl) ?_ (fun hHeld => ?_)
          · exact c0
          refine wpAnyH_take (i := 0) (oi := ⟨some 24, _, _, _, _, _⟩) (v := ?_) rfl (by kernel_rfl) (by kernel_rfl) (by kernel_rfl) (fun _ _ _ h => h) (Or.inl ⟨by rfl, ?_⟩) (by assumption) ?_; rotate_left; focus (intro w hSw; (try dsimp only at hSw); first | (go_simp; done) | (go_simp; with_reducible rfl))
          try simp only [Act.put]
          try simp only [List.setIfInBounds_toArray]
          try simp only [List.set_cons_succ, List.set_cons_zero]
          refine wpAnyH_take (i := 2) (oi := ⟨some 26, _, _, _, _, _⟩) (v := ?_) rfl (by kernel_rfl) (by kernel_rfl) (by kernel_rfl) (fun _ _ _ h => h) (Or.inl ⟨by rfl, ?_⟩) (by assumption) ?_; rotate_left; focus (intro w hSw; (try dsimp only at hSw); first | (go_simp; done) | (go_simp; with_reducible rfl))
          try simp only [Act.put]
          try simp only [List.setIfInBounds_toArray]
          try simp only [List.set_cons_succ, List.set_cons_zero]
          refine wpAnyH_take (i := 3) (oi := ⟨some 27, _, _, _, _, _⟩) (v := ?_) rfl (by kernel_rfl) (by kernel_rfl) (by kernel_rfl) (fun _ _ _ h => h) (Or.inl ⟨by rfl, ?_⟩) (by assumption) ?_; rotate_left; focus (intro w hSw; (try dsimp only at hSw); first | (go_simp; done) | (go_simp; with_reducible rfl))
          try simp only [Act.put]
          try simp only [List.setIfInBounds_toArray]
          try simp only [List.set_cons_succ, List.set_cons_zero]
          refine wpAnyH_take (i := 4) (oi := ⟨some 28, _, _, _, _, _⟩) (v := ?_) rfl (by kernel_rfl) (by kernel_rfl) (by kernel_rfl) (fun _ _ _ h => h) (Or.inl ⟨by rfl, ?_⟩) (by assumption) ?_; rotate_left; focus (intro w hSw; (try dsimp only at hSw); first | (go_simp; done) | (go_simp; with_reducible rfl))
          try simp only [Act.put]
          try simp only [List.setIfInBounds_toArray]
          try simp only [List.set_cons_succ, List.set_cons_zero]
          refine wpAnyH_take (i := 5) (oi := ⟨some 29, _, _, _, _, _⟩) (v := ?_) rfl (by kernel_rfl) (by kernel_rfl) (by kernel_rfl) (fun _ _ _ h => h) (Or.inl ⟨by rfl, ?_⟩) (by assumption) ?_; rotate_left; focus (intro w hSw; (try dsimp only at hSw); first | (go_simp; done) | (go_simp; with_reducible rfl))
          try simp only [Act.put]
          try simp only [List.setIfInBounds_toArray]
          try simp only [List.set_cons_succ, List.set_cons_zero]
          refine wpAnyH_take (i := 7) (oi := ⟨some 31, _, _, _, _, _⟩) (v := ?_) rfl (by kernel_rfl) (by kernel_rfl) (by kernel_rfl) (fun _ _ _ h => h) (Or.inl ⟨by rfl, ?_⟩) (by assumption) ?_; rotate_left; focus (intro w hSw; (try dsimp only at hSw); first | (go_simp; done) | (go_simp; with_reducible rfl))
          try simp only [Act.put]
          try simp only [List.setIfInBounds_toArray]
          try simp only [List.set_cons_succ, List.set_cons_zero]
          refine wpAnyH_take (i := 8) (oi := ⟨some 32, _, _, _, _, _⟩) (v := ?_) rfl (by kernel_rfl) (by kernel_rfl) (by kernel_rfl) (fun _ _ _ h => h) (Or.inl ⟨by rfl, ?_⟩) (by assumption) ?_; rotate_left; focus (intro w hSw; (try dsimp only at hSw); first | (go_simp; done) | (go_simp; with_reducible rfl))
          try simp only [Act.put]
          try simp only [List.setIfInBounds_toArray]
          try simp only [List.set_cons_succ, List.set_cons_zero]
          refine wpAnyH_take (i := 9) (oi := ⟨some 33, _, _, _, _, _⟩) (v := ?_) rfl (by kernel_rfl) (by kernel_rfl) (by kernel_rfl) (fun _ _ _ h => h) (Or.inl ⟨by rfl, ?_⟩) (by assumption) ?_; rotate_left; focus (intro w hSw; (try dsimp only at hSw); first | (go_simp; done) | (go_simp; with_reducible rfl))
          try simp only [Act.put]
          try simp only [List.setIfInBounds_toArray]
          try simp only [List.set_cons_succ, List.set_cons_zero]
          refine wpAnyH_take (i := 10) (oi := ⟨some 34, _, _, _, _, _⟩) (v := ?_) rfl (by kernel_rfl) (by kernel_rfl) (by kernel_rfl) (fun _ _ _ h => h) (Or.inl ⟨by rfl, ?_⟩) (by assumption) ?_; rotate_left; focus (intro w hSw; (try dsimp only at hSw); first | (go_simp; done) | (go_simp; with_reducible rfl))
          try simp only [Act.put]
          try simp only [List.setIfInBounds_toArray]
          try simp only [List.set_cons_succ, List.set_cons_zero]
          refine wpAnyH_take (i := 11) (oi := ⟨some 35, _, _, _, _, _⟩) (v := ?_) rfl (by kernel_rfl) (by kernel_rfl) (by kernel_rfl) (fun _ _ _ h => h) (Or.inl ⟨by rfl, ?_⟩) (by assumption) ?_; rotate_left; focus (intro w hSw; (try dsimp only at hSw); first | (go_simp; done) | (go_simp; with_reducible rfl))
          try simp only [Act.put]
          try simp only [List.setIfInBounds_toArray]
          try simp only [List.set_cons_succ, List.set_cons_zero]
          refine wpAnyH_ready (rs := [1]) (by kernel_rfl) (by simp) ?_
          refine AllReadyH.cons (i := 1) (o := ⟨some 25, _, _, _, _, _⟩) rfl (fun K hK => ?_) ?_
          · go_simp
            refine (H14.out _ (by first | exact hcur.out | exact hcur.out.drew)).mono ?_
            rintro e w5 ⟨_, rfl, hb5, a5, c5, rfl, hn5⟩
            have hcur := Lib.hid ((by first | exact hcur.out.trans (hb5.mono hcur.out.size) | exact hcur.out.drew.trans (hb5.mono hcur.out.size) | exact hcur.out.drew.drew.trans (hb5.mono hcur.out.size)) : Below w.heap.size w w5)
            have H13 : Hid (∀ W, Below w5.heap.size w5 W → Calls Try.prog 13 #[.slice a5 l.length c5, .string ⟨x.toArray⟩] W (Ret W fun v w' => IsB (∃ y ∈ G l x, Rch (G l) y x) v w')) := Lib.hid fun W hb => round_any a5 c5 l x W (hn5.ext hb) HL.out Hxl.out
            have s5 := below_ext hb5 (by exact hHeld)
            clear hn5
            refine hK.out _ _ ?_ (fun hHeld => ?_)
            · exact s5
            try simp only [Act.put]
            try simp only [List.setIfInBounds_toArray]
            try simp only [List.set_cons_succ, List.set_cons_zero]
            refine wpAnyH_ready (rs := [6]) (by kernel_rfl) (by simp) ?_
            refine AllReadyH.cons (i := 6) (o := ⟨some 30, _, _, _, _, _⟩) rfl (fun K hK => ?_) ?_
            · go_simp
              refine (H13.out _ (by first | exact Below.refl _ _ | exact (Below.refl _ _).drew | exact hb7 | exact hb7.drew)).mono ?_
              rintro e w6 ⟨_, rfl, hb6, b6, rfl, hb6i⟩
              have hcur := Lib.hid ((by first | exact hcur.out.trans (hb6.mono hcur.out.size) | exact hcur.out.drew.trans (hb6.mono hcur.out.size) | exact hcur.out.drew.drew.trans (hb6.mono hcur.out.size)) : Below w.heap.size w w6)
              have s6 := below_ext hb6 (by exact hHeld)
              refine hK.out _ _ ?_ (fun hHeld => ?_)
              · exact s6
              try simp only [Act.put]
              try simp only [List.setIfInBounds_toArray]
              try simp only [List.set_cons_succ, List.set_cons_zero]
              refine wpAnyH_ready (rs := [12]) (by kernel_rfl) (by simp) ?_
              refine AllReadyH.cons (i := 12) (o := ⟨some 36, _, _, _, _, _⟩) rfl (fun K hK => ?_) ?_
              · go_simp
                refine (H15.out x _ (by first | exact hcur.out | exact hcur.out.drew)).mono ?_
                rintro e w7 ⟨_, rfl, hb7, b7, rfl, hb7i⟩
                have hcur := Lib.hid ((by first | exact hcur.out.trans (hb7.mono hcur.out.size) | exact hcur.out.drew.trans (hb7.mono hcur.out.size) | exact hcur.out.drew.drew.trans (hb7.mono hcur.out.size)) : Below w.heap.size w w7)
                have s7 := below_ext hb7 (by exact hHeld)
                refine hK.out _ _ ?_ (fun hHeld => ?_)
                · exact s7
                try simp only [Act.put]
                try simp only [List.setIfInBounds_toArray]
                try simp only [List.set_cons_succ, List.set_cons_zero]
                refine wpAnyH_take (i := 13) (oi := ⟨some 37, _, _, _, _, _⟩) (v := ?_) rfl (by kernel_rfl) (by kernel_rfl) (by kernel_rfl) (fun _ _ _ h => h) (Or.inl ⟨by rfl, ?_⟩) (by assumption) ?_; rotate_left; focus (intro w hSw; (try dsimp only at hSw); first | (go_simp; done) | (go_simp; with_reducible rfl))
                try simp only [Act.put]
                try simp only [List.setIfInBounds_toArray]
                try simp only [List.set_cons_succ, List.set_cons_zero]
                refine wpAnyH_done (by kernel_rfl) ?_ _
                have hbb : b6 = b7 := by
                  cases b6 <;> cases b7
                  · rfl
                  · exact absurd (hb6i.2 (hb7i.1 rfl)) (by simp)
                  · exact absurd (hb7i.2 (hb6i.1 rfl)) (by simp)
                  · rfl
                subst hbb
                have Hcur := hcur
                clear hHeld hcur hb5 hb6 hb7 hb6i hb7i s5 s6 s7 c0 H13
                cases b6
                · go_wp2
                  go_roundw
                  case rel => exact ⟨k + 1, by omega, by go_num, Hcur⟩
                  case measure => simp [intOf]; omega
                · go_wp2
                  go_roundw
                  case rel => exact ⟨k + 1, by omega, by go_num, Hcur⟩
                  case measure => simp [intOf]; omega
              exact AllReadyH.nil
            exact AllReadyH.nil
          exact AllReadyH.nil
        · obtain rfl : k = st.length := by omega
          go_wp2_with fail
          refine (H14.out _ hb.out).mono ?_
          rintro e w5 ⟨_, rfl, hb5, a5, c5, rfl, hn5⟩
          have hg := groups_any a5 c5 l w5 hn5 HL.out
          have Hg := Lib.hid hg
          have Hb5 := Lib.hid (hb.out.trans (hb5.mono hb.out.size))
          clear hg hb5 hn5
          go_wp2_with fail
          refine Hg.out.mono ?_
          clear Hg
          rintro e w6 ⟨_, rfl, hb6, gs, ag, cg, rfl, hog, hrg, hgl, hgr, hseq, hall⟩
          have Hb6 := Lib.hid (Hb5.out.trans (hb6.mono Hb5.out.size))
          have hgR := groupsR_any a c l w6 (HN.out.ext Hb6.out) HL.out
          have HgR := Lib.hid hgR
          have HGS := Lib.hid (And.intro hog.row (And.intro hrg (And.intro hgl (And.intro hgr (And.intro hseq hall)))))
          clear hgR hb6 hog hrg hgl hgr hseq hall
          go_wp2_with fail
          refine HgR.out.mono ?_
          clear HgR
          rintro e w7 ⟨_, rfl, hb7, gs2, ag2, cg2, rfl, hrow2, hrg2, hgl2, hgr2, hseq2, hstop2⟩
          have Hb7 := Lib.hid (Hb6.out.trans (hb7.mono Hb6.out.size))
          have heq : gs.map RowD.l = gs2.map RowD.l := HGS.out.2.2.2.2.1.same hseq2 HGS.out.2.2.2.2.2 hstop2
          have hsame := same_any ag ag2 cg cg2 gs gs2 w7 (HGS.out.1.ext hb7) hrow2 (fun r hr => (HGS.out.2.1 r hr).ext hb7) hrg2 (by have := HGS.out.2.2.1; omega) (by omega) (fun r hr => by have := HGS.out.2.2.2.1 r hr; omega) hgr2
          have Hsame := Lib.hid hsame
          have Heq := Lib.hid heq
          clear hsame heq hb7 hrow2 hrg2 hgl2 hgr2 hseq2 hstop2 HGS
          go_wp2_with fail
          refine Hsame.out.mono ?_
          clear Hsame
          rintro e w8 ⟨_, rfl, hb8, b8, rfl, hb8i⟩
          obtain rfl : b8 = true := hb8i.2 Heq.out
          have Hb8 := Lib.hid (Hb7.out.trans (hb8.mono Hb7.out.size))
          clear hb8 hb8i
          go_wp2_with fail
          refine (H8.out w8).mono ?_
          rintro e w9 ⟨_, rfl, hb9, rfl⟩
          have Hb9 := Lib.hid (Hb8.out.trans (hb9.mono Hb8.out.size))
          clear hb9
          go_wp2_with fail
          refine (H14.out _ Hb9.out).mono ?_
          rintro e w10 ⟨_, rfl, hb10, a10, c10, rfl, hn10⟩
          have Hb10 := Lib.hid (Hb9.out.trans (hb10.mono Hb9.out.size))
          have hu := users_any a10 an c10 cn l st w10 hn10 HL.out (HS.out.ext Hb10.out) hsl HSN.out
          have Hu := Lib.hid hu
          clear hu hb10 hn10
          go_wp2_with fail
          refine Hu.out.mono ?_
          clear Hu
          rintro e w11 ⟨_, rfl, hb11, us, au, cu, rfl, hou, hur, hul, hum⟩
          have Hb11 := Lib.hid (Hb10.out.trans (hb11.mono Hb10.out.size))
          have huR := usersR_any a an c cn l st w11 (HN.out.ext Hb11.out) HL.out (HS.out.ext Hb11.out) (by omega)
          have HuR := Lib.hid huR
          have HU := Lib.hid (And.intro hou.row (And.intro hur (And.intro hul hum)))
          clear huR hb11 hou hur hul hum
          go_wp2_with fail
          refine HuR.out.mono ?_
          clear HuR
          rintro e w12 ⟨_, rfl, hb12, us2, au2, cu2, rfl, hrow12, hur2, hum2, hul2⟩
          have heq2 : us = us2 := rising_unique nmOrd HU.out.2.1 hur2 fun x => by rw [HU.out.2.2.2 x, hum2 x]
          have hst := strings_any au au2 cu cu2 us us2 w12 (HU.out.1.ext hb12) hrow12.1 (by have := HU.out.2.2.1; omega)
          have Hst := Lib.hid hst
          have Heq2 := Lib.hid heq2
          have Hb12 := Lib.hid (Hb11.out.trans (hb12.mono Hb11.out.size))
          clear hst heq2 hb12 hrow12 hur2 hum2 hul2 HU
          go_wp2_with fail
          refine Hst.out.mono ?_
          clear Hst
          rintro e w13 ⟨_, rfl, hb13, b13, rfl, hb13i⟩
          obtain rfl : b13 = true := hb13i.2 Heq2.out
          go_wp2
          go_ret
          exact ⟨_, rfl, Hb12.out.trans (hb13.mono Hb12.out.size), rfl⟩
end Go.Proofs.Ytnepamdmjppglaa
