/- The law on what a part calls: walked. -/
import Derived.Test.YtnepamdmjppglaaOf
import Derived.Test.YtnepamdmjppglaaPush
import Derived.Test.YtnepamdmjppglaaAlive
import Derived.Test.YtnepamdmjppglaaNodes
namespace Go.Proofs.Ytnepamdmjppglaa
open Go Go.RowKit

theorem Five.ext {W W' : World} {b : Nat} {x : PartD} (h : Five W b x) (hb : Below W.heap.size W W') : Five W' b x :=
  ⟨below_ext hb h.1, below_ext hb h.2.1, below_ext hb h.2.2.1, below_ext hb h.2.2.2.1, below_ext hb h.2.2.2.2⟩

set_option maxHeartbeats 2000000 in
set_option maxRecDepth 20000 in
theorem lawF_any (p : PartD) (w : World) (h : PartAt w p) (hw : weight (pre p) ≤ 1048576) : Calls Try.prog 3 #[p.val] w (Ret w fun v _ => v = .bool true) := by
  have H8 : Hid (∀ W, Calls Try.prog 8 #[] W (Ret W fun v _ => v = .bool true)) := Lib.hid alive_any
  have HS : Hid (∀ W, Below w.heap.size w W → Calls Try.prog 7 #[p.val] W (Ret W fun v _ => ∃ m : Nat, v = .int .i64 m ∧ m ≤ weight (pre p) ∧ (m ≤ 1600 → m = weight (pre p)))) := Lib.hid (size_any h hw)
  have HR : Hid (∀ W, Below w.heap.size w W → Calls Try.prog 11 #[p.val] W (Ret W (OfR (calledIn (pre p))))) := Lib.hid (ofR_any h hw)
  have HO : Hid (∀ W, Below w.heap.size w W → Calls Try.prog 10 #[p.val] W (Ret W (OfR (calledIn (pre p))))) := Lib.hid fun W hW => of_any p W (h.ext hW) hw
  have hcl : (calledIn (pre p)).length ≤ 1048576 := Nat.le_trans (calledIn_len _) hw
  generalize calledIn (pre p) = L at *
  generalize weight (pre p) = N at *
  clear h
  rw [PartD.val_eq] at HS HR HO ⊢
  go_enter Try.func3, Try.ntmps3
  go_wp2_with fail
  have hx1 : Five (w.alloc (.cells #[.string ⟨p.kind.toArray⟩, .string ⟨p.text.toArray⟩, .int .i64 p.lo, .int .i64 p.hi, .slice p.a p.kids.length p.c] 24)) w.heap.size p :=
    ⟨(Blk.new rfl).cell 0, (Blk.new rfl).cell 1, (Blk.new rfl).cell 2, (Blk.new rfl).cell 3, (Blk.new rfl).cell 4⟩
  have hb1 := below_a1 w (.cells #[.string ⟨p.kind.toArray⟩, .string ⟨p.text.toArray⟩, .int .i64 p.lo, .int .i64 p.hi, .slice p.a p.kids.length p.c] 24)
  refine (HS.out _ hb1).mono ?_
  rintro e w2 ⟨_, rfl, hb2, m, rfl, hm, -⟩
  have hx2 := hx1.ext hb2
  have Hb2 := Lib.hid (hb1.trans (hb2.mono hb1.size))
  have HX2 := Lib.hid hx2
  clear hx1 hx2 hb1 hb2 HS
  by_cases h4 : 400 < m
  · have h4i : (400 : Int) < (m : Int) := by omega
    go_wp2_with fail
    refine (H8.out w2).mono ?_
    rintro e w3 ⟨_, rfl, hb3, rfl⟩
    go_wp2
    go_ret
    exact ⟨_, rfl, Hb2.out.trans (hb3.mono Hb2.out.size), rfl⟩
  · have h4i : (m : Int) ≤ 400 := by omega
    obtain ⟨p0, p1, p2, p3, p4⟩ := HX2.out
    go_wp2_with fail
    refine wp_region_held_drew (S := fun w' => w'.cell? ⟨w.heap.size, 0, none⟩ = some (.string ⟨p.kind.toArray⟩) ∧ w'.cell? ⟨w.heap.size, 1, none⟩ = some (.string ⟨p.text.toArray⟩) ∧ w'.cell? ⟨w.heap.size, 2, none⟩ = some (.int .i64 p.lo) ∧ w'.cell? ⟨w.heap.size, 3, none⟩ = some (.int .i64 p.hi) ∧ w'.cell? ⟨w.heap.size, 4, none⟩ = some (.slice p.a p.kids.length p.c)) (by kernel_rfl) ?_ (fun hHeld => ?_)
    · first | exact ⟨p0, p1, p2, p3, p4⟩ | exact Five.ext (x := p) hHeld hb5
    refine wpAnyH_ready (rs := [0]) (by kernel_rfl) (by simp) ?_
    refine AllReadyH.cons (i := 0) (o := ⟨some 7, _, _, _, _, _⟩) rfl (fun K hK => ?_) ?_
    · go_simp
      refine (H8.out _).mono ?_
      rintro e w5 ⟨_, rfl, hb5, rfl⟩
      have hb52 : Below w2.heap.size w2 w5 := by first | exact hb5 | exact (Below.refl _ _).drew.trans (hb5.mono (by simp))
      have Hb5 := Lib.hid (Hb2.out.trans (hb52.mono Hb2.out.size))
      refine hK.out _ _ ?_ (fun hHeld => ?_)
      · first | exact ⟨p0, p1, p2, p3, p4⟩ | exact Five.ext (x := p) hHeld hb5
      try simp only [Act.put]
      try simp only [List.setIfInBounds_toArray]
      try simp only [List.set_cons_succ, List.set_cons_zero]
      refine wpAnyH_take (i := 1) (oi := ⟨some 8, _, _, _, _, _⟩) (v := ?_) rfl (by kernel_rfl) (by kernel_rfl) (by kernel_rfl) (fun _ _ _ h => h) (Or.inl ⟨by rfl, ?_⟩) (by assumption) ?_; rotate_left; focus (intro w hSw; (try dsimp only at hSw); first | (go_simp; done) | (go_simp; with_reducible rfl))
      try simp only [Act.put]
      try simp only [List.setIfInBounds_toArray]
      try simp only [List.set_cons_succ, List.set_cons_zero]
      refine wpAnyH_take (i := 2) (oi := ⟨some 9, _, _, _, _, _⟩) (v := ?_) rfl (by kernel_rfl) (by kernel_rfl) (by kernel_rfl) (fun _ _ _ h => h) (Or.inl ⟨by rfl, ?_⟩) (by assumption) ?_; rotate_left; focus (intro w hSw; (try dsimp only at hSw); first | (go_simp; done) | (go_simp; with_reducible rfl))
      try simp only [Act.put]
      try simp only [List.setIfInBounds_toArray]
      try simp only [List.set_cons_succ, List.set_cons_zero]
      refine wpAnyH_take (i := 4) (oi := ⟨some 11, _, _, _, _, _⟩) (v := ?_) rfl (by kernel_rfl) (by kernel_rfl) (by kernel_rfl) (fun _ _ _ h => h) (Or.inl ⟨by rfl, ?_⟩) (by assumption) ?_; rotate_left; focus (intro w hSw; (try dsimp only at hSw); first | (go_simp; done) | (go_simp; with_reducible rfl))
      try simp only [Act.put]
      try simp only [List.setIfInBounds_toArray]
      try simp only [List.set_cons_succ, List.set_cons_zero]
      refine wpAnyH_ready (rs := [3]) (by kernel_rfl) (by simp) ?_
      refine AllReadyH.cons (i := 3) (o := ⟨some 10, _, _, _, _, _⟩) rfl (fun K hK => ?_) ?_
      · go_simp
        refine (HO.out _ Hb5.out).mono ?_
        rintro e w6 ⟨_, rfl, hb6, q1, a1, c1, rfl, hr1, hp1, hm1⟩
        have Hb6 := Lib.hid (Hb5.out.trans (hb6.mono Hb5.out.size))
        have Hr1 := Lib.hid hr1
        have Hp1 := Lib.hid hp1
        have Hm1 := Lib.hid hm1
        have hl1 := rising_len hp1 hm1
        clear hr1 hp1 hm1
        refine hK.out _ _ ?_ (fun hHeld => ?_)
        · exact Five.ext (x := p) hHeld hb6
        try simp only [Act.put]
        try simp only [List.setIfInBounds_toArray]
        try simp only [List.set_cons_succ, List.set_cons_zero]
        refine wpAnyH_ready (rs := [5]) (by kernel_rfl) (by simp) ?_
        refine AllReadyH.cons (i := 5) (o := ⟨some 12, _, _, _, _, _⟩) rfl (fun K hK => ?_) ?_
        · go_simp
          refine (HR.out _ Hb6.out).mono ?_
          rintro e w7 ⟨_, rfl, hb7, q2, a2, c2, rfl, hr2, hp2, hm2⟩
          have Hb7 := Lib.hid (Hb6.out.trans (hb7.mono Hb6.out.size))
          have hst := strings_any a1 a2 c1 c2 q1 q2 w7 (Hr1.out.1.ext hb7) hr2.1 (by omega)
          obtain rfl : q1 = q2 := rising_unique nmOrd Hp1.out hp2 fun x => (Hm1.out x).trans (hm2 x).symm
          have Hst := Lib.hid hst
          clear hr2 hp2 hm2 hst
          refine hK.out _ _ ?_ (fun hHeld => ?_)
          · exact Five.ext (x := p) hHeld hb7
          try simp only [Act.put]
          try simp only [List.setIfInBounds_toArray]
          try simp only [List.set_cons_succ, List.set_cons_zero]
          refine wpAnyH_ready (rs := [6]) (by kernel_rfl) (by simp) ?_
          refine AllReadyH.cons (i := 6) (o := ⟨some 13, _, _, _, _, _⟩) rfl (fun K hK => ?_) ?_
          · go_simp
            refine Hst.out.mono ?_
            rintro e w8 ⟨_, rfl, hb8, b8, rfl, hbi⟩
            obtain rfl : b8 = true := hbi.2 rfl
            have Hb8 := Lib.hid (Hb7.out.trans (hb8.mono Hb7.out.size))
            clear hbi
            refine hK.out _ _ ?_ (fun hHeld => ?_)
            · exact Five.ext (x := p) hHeld hb8
            try simp only [Act.put]
            try simp only [List.setIfInBounds_toArray]
            try simp only [List.set_cons_succ, List.set_cons_zero]
            refine wpAnyH_take (i := 7) (oi := ⟨some 14, _, _, _, _, _⟩) (v := ?_) rfl (by kernel_rfl) (by kernel_rfl) (by kernel_rfl) (fun _ _ _ h => h) (Or.inl ⟨by rfl, ?_⟩) (by assumption) ?_; rotate_left; focus (intro w hSw; (try dsimp only at hSw); first | (go_simp; done) | (go_simp; with_reducible rfl))
            try simp only [Act.put]
            try simp only [List.setIfInBounds_toArray]
            try simp only [List.set_cons_succ, List.set_cons_zero]
            refine wpAnyH_take (i := 8) (oi := ⟨some 2, _, _, _, _, _⟩) (v := ?_) rfl (by kernel_rfl) (by kernel_rfl) (by kernel_rfl) (fun _ _ _ h => h) (Or.inl ⟨by rfl, ?_⟩) (by assumption) ?_; rotate_left; focus (intro w hSw; (try dsimp only at hSw); first | (go_simp; done) | (go_simp; with_reducible rfl))
            try simp only [Act.put]
            try simp only [List.setIfInBounds_toArray]
            try simp only [List.set_cons_succ, List.set_cons_zero]
            refine wpAnyH_done (by kernel_rfl) ?_ _
            go_wp2
            go_ret
            exact ⟨_, rfl, Hb8.out, rfl⟩
          exact AllReadyH.nil
        exact AllReadyH.nil
      exact AllReadyH.nil
    exact AllReadyH.nil
end Go.Proofs.Ytnepamdmjppglaa
