/- The law on who reaches: plainly, and walked. -/
import Derived.Test.YtnepamdmjppglaaLawG
namespace Go.Proofs.Ytnepamdmjppglaa
open Go Go.RowKit

theorem again_same {l : List NodeD} {st us us2 : List Nm} (h1 : us.Pairwise fun x y => x < y) (hm1 : ∀ x, x ∈ us ↔ x ∈ names l ∧ ∃ n ∈ st, Rch (G l) x n) (h2 : us2.Pairwise fun x y => x < y) (hm2 : ∀ x, x ∈ us2 ↔ x ∈ names l ∧ ∃ n ∈ us, Rch (G l) x n) : us = us2 := by
  refine rising_unique nmOrd h1 h2 fun x => ?_
  rw [hm2 x]
  constructor
  · intro h
    exact ⟨((hm1 x).1 h).1, x, h, .refl x⟩
  · rintro ⟨hx, n, hn, hr⟩
    obtain ⟨-, m, hm, hr2⟩ := (hm1 n).1 hn
    exact (hm1 x).2 ⟨hx, m, hm, hr.trans hr2⟩
theorem users_len {l : List NodeD} {st us : List Nm} (h1 : us.Pairwise fun x y => x < y) (hm1 : ∀ x, x ∈ us ↔ x ∈ names l ∧ ∃ n ∈ st, Rch (G l) x n) : us.length ≤ l.length := by
  have := List.Nodup.length_le_of_subset (l₁ := us) (l₂ := names l) (h1.imp fun h e => by subst e; exact absurd h (List.lt_irrefl _)) fun x hx => ((hm1 x).1 hx).1
  simpa [names] using this
theorem users_max {l : List NodeD} (hl : SmallN l) {st us : List Nm} (hm1 : ∀ x, x ∈ us ↔ x ∈ names l ∧ ∃ n ∈ st, Rch (G l) x n) : ∀ n ∈ us, n.length ≤ maxLen := fun n hn => by
  obtain ⟨d, hd, rfl⟩ := mem_names.1 ((hm1 n).1 hn).1
  have := hl.name d hd
  unfold M20 at this
  unfold maxLen
  omega
theorem users_names {l : List NodeD} {st us : List Nm} (hm1 : ∀ x, x ∈ us ↔ x ∈ names l ∧ ∃ n ∈ st, Rch (G l) x n) {x : Nm} (hx : x ∈ st) (hn : x ∈ names l) : x ∈ us := (hm1 x).2 ⟨hn, x, hx, .refl x⟩
theorem users_closed {l : List NodeD} {st us : List Nm} (hm1 : ∀ x, x ∈ us ↔ x ∈ names l ∧ ∃ n ∈ st, Rch (G l) x n) {i : Nat} {d : NodeD} (hd : l[i]? = some d) (hf : ∀ j (e : NodeD), j < i → l[j]? = some e → e.name ≠ d.name) {y : Nm} (hy : y ∈ d.calls) (hu : y ∈ us) : d.name ∈ us := by
  obtain ⟨hn, n, h1, h2⟩ := (hm1 y).1 hu
  refine (hm1 _).2 ⟨mem_names.2 ⟨d, List.mem_of_getElem? hd, rfl⟩, n, h1, (Rch.edge (mem_G.2 ⟨?_, hn⟩)).trans h2⟩
  rw [callsOf_first hd hf]
  exact hy

set_option maxHeartbeats 4000000 in
set_option maxRecDepth 20000 in
theorem lawU_any (a an : Option Addr) (c cn : Nat) (l : List NodeD) (st : List Nm) (w : World) (hn : NodesAt w a l) (hl : SmallN l) (hs : Row w 1 an st.length (st.map strV)) (hsl : st.length ≤ 1048576) (hsn : ∀ n ∈ st, n.length ≤ maxLen) :
    Calls Try.prog 6 #[.slice a l.length c, .slice an st.length cn] w (Ret w fun v _ => v = .bool true) := by
  have hlen : l.length ≤ 1048576 := hl.len
  have hcl : ∀ d ∈ l, d.calls.length ≤ 1048576 := fun d hd => by have := total_mem hd; have := hl.tot; unfold M20 at this; omega
  have hfits := fits_any a c l w hn hlen hcl
  have HN := Lib.hid hn
  have HL := Lib.hid hl
  have HS := Lib.hid hs
  have HSN := Lib.hid hsn
  have HCL := Lib.hid hcl
  have H14 : Hid (∀ W, Below w.heap.size w W → Calls Try.prog 14 #[.slice a l.length c] W (Ret W fun v w' => ∃ a' c', v = .slice a' l.length c' ∧ NodesAt w' a' l)) := Lib.hid fun W hb => nodes_any a c l W (hn.ext hb) hlen
  have H8 : Hid (∀ W, Calls Try.prog 8 #[] W (Ret W fun v _ => v = .bool true)) := Lib.hid alive_any
  clear hn hl hs hsn hcl
  go_enter Try.func6, Try.ntmps6
  go_wp2_with fail
  refine hfits.mono ?_
  clear hfits
  rintro e w1 ⟨_, rfl, hb1, bf, rfl⟩
  have Hb1 := Lib.hid hb1
  clear hb1
  cases bf
  · go_wp2_with fail
    refine (H8.out w1).mono ?_
    rintro e w2 ⟨_, rfl, hb2, rfl⟩
    go_wp2
    go_ret
    exact ⟨_, rfl, Hb1.out.trans (hb2.mono Hb1.out.size), rfl⟩
  · by_cases hlong : 30 < st.length
    · go_wp2_with fail
      refine (H8.out w1).mono ?_
      rintro e w2 ⟨_, rfl, hb2, rfl⟩
      go_wp2
      go_ret
      exact ⟨_, rfl, Hb1.out.trans (hb2.mono Hb1.out.size), rfl⟩
    · go_wp2_with fail
      refine (H14.out _ Hb1.out).mono ?_
      rintro e w2 ⟨_, rfl, hb2, a2, c2, rfl, hn2⟩
      have Hb2 := Lib.hid (Hb1.out.trans (hb2.mono Hb1.out.size))
      have hu := users_any a2 an c2 cn l st w2 hn2 HL.out (HS.out.ext Hb2.out) hsl HSN.out
      have Hu := Lib.hid hu
      clear hu hb2 hn2
      go_wp2_with fail
      refine Hu.out.mono ?_
      clear Hu
      rintro e w3 ⟨_, rfl, hb3, us, au, cu, rfl, hou, hur, hul, hum⟩
      have Hb3 := Lib.hid (Hb2.out.trans (hb3.mono Hb2.out.size))
      have HU := Lib.hid (And.intro hou.row (And.intro hur hum))
      have hul2 := users_len hur hum
      have HUM := Lib.hid (users_max HL.out hum)
      clear hb3 hou hur hul hum
      go_wp2_with fail
      refine (H14.out _ Hb3.out).mono ?_
      rintro e w4 ⟨_, rfl, hb4, a4, c4, rfl, hn4⟩
      have hu := users_any a4 au c4 cu l us w4 hn4 HL.out (HU.out.1.ext hb4) (by omega) HUM.out
      have Hu := Lib.hid hu
      have Hb4 := Lib.hid (Hb3.out.trans (hb4.mono Hb3.out.size))
      have Hc4 := Lib.hid hb4
      clear hu hb4 hn4
      go_wp2_with fail
      refine Hu.out.mono ?_
      clear Hu
      rintro e w5 ⟨_, rfl, hb5, us2, au2, cu2, rfl, hou, hur, hul, hum⟩
      have Hb5 := Lib.hid (Hb4.out.trans (hb5.mono Hb4.out.size))
      have Hc5 := Lib.hid (Hc4.out.trans (hb5.mono Hc4.out.size))
      have Heq := Lib.hid (again_same HU.out.2.1 HU.out.2.2 hur hum)
      have hst := strings_any au au2 cu cu2 us us2 w5 (HU.out.1.ext Hc5.out) hou.row (by omega)
      have Hst := Lib.hid hst
      clear hst hb5 hou hur hul hum
      go_wp2_with fail
      refine Hst.out.mono ?_
      clear Hst
      rintro e w6 ⟨_, rfl, hb6, b6, rfl, hb6i⟩
      obtain rfl : b6 = true := hb6i.2 Heq.out
      have Hb6 := Lib.hid (Hb5.out.trans (hb6.mono Hb5.out.size))
      have Hc6 := Lib.hid (Hc5.out.trans (hb6.mono Hc5.out.size))
      have hnr := namesR_any a c l w6 (HN.out.ext Hb6.out) hlen
      have Hnr := Lib.hid hnr
      clear hnr hb6 hb6i
      go_wp2_with fail
      refine Hnr.out.mono ?_
      clear Hnr
      rintro e w7 ⟨_, rfl, hb7, all, aa, ca, rfl, hra, hpa, hma, hla⟩
      have Hb7 := Lib.hid (Hb6.out.trans (hb7.mono Hb6.out.size))
      have HU7 := Lib.hid (HU.out.1.ext (Hc6.out.trans (hb7.mono Hc6.out.size)))
      have HA7 := Lib.hid (And.intro hra.1 hma)
      have HN7 := Lib.hid (HN.out.ext Hb7.out)
      have HS7 := Lib.hid (HS.out.ext Hb7.out)
      clear hb7 hra hpa hma Hb1 Hb2 Hb3 Hb4 Hb5 Hb6 Hc4 Hc5 Hc6
      go_wp2_with fail
      go_loopw [9] (fun i wq => ∃ k : Nat, k ≤ st.length ∧ i = .int .i64 k ∧ Hid (Below w7.heap.size w7 wq)) (fun i _ => st.length - (intOf i).toNat)
      case atStart => exact ⟨0, Nat.zero_le _, rfl, Lib.hid (Below.refl _ _)⟩
      case round =>
        obtain ⟨k, hk, rfl, hb⟩ := hrel
        by_cases hlt : k < st.length
        · obtain ⟨x, hx⟩ := get_some hlt
          obtain ⟨nb, no, rfl, c0⟩ := str_at (HS7.out.ext hb.out) hx
          have hxm := List.mem_of_getElem? hx
          clear hx
          have hh1 := has_any aa ca all x wr (HA7.out.1.ext hb.out) (by omega)
          have hh2 := has_any au cu us x wr (HU7.out.ext hb.out) (by omega)
          have H1 := Lib.hid hh1
          have H2 := Lib.hid hh2
          clear hh1 hh2
          go_wp2_with fail
          refine H1.out.mono ?_
          clear H1
          rintro e w8 ⟨rfl, rfl⟩
          by_cases hxa : x ∈ all
          · have hxu : x ∈ us := users_names HU.out.2.2 hxm ((HA7.out.2 x).1 hxa)
            rw [decide_eq_true hxa]
            go_wp2_with fail
            refine H2.out.mono ?_
            clear H2
            rintro e w9 ⟨rfl, rfl⟩
            rw [decide_eq_true hxu]
            go_wp2
            go_roundw
            case rel => exact ⟨k + 1, by omega, by go_num, hb⟩
            case measure => simp [intOf]; omega
          · rw [decide_eq_false hxa]
            go_wp2
            go_roundw
            case rel => exact ⟨k + 1, by omega, by go_num, hb⟩
            case measure => simp [intOf]; omega
        · obtain rfl : k = st.length := by omega
          clear HS7 HA7
          go_wp2_with fail
          go_loopw [10] (fun i wq => ∃ k : Nat, k ≤ l.length ∧ i = .int .i64 k ∧ Hid (Below w7.heap.size w7 wq)) (fun i _ => l.length - (intOf i).toNat)
          case atStart => exact ⟨0, Nat.zero_le _, rfl, hb⟩
          case round =>
            obtain ⟨k, hk, rfl, hb⟩ := hrel
            by_cases hlt : k < l.length
            · obtain ⟨d, hd⟩ := get_some hlt
              have Hd := Lib.hid hd
              clear hd
              go_wp2_with fail
              go_loopw [11, 12] (fun f i wq => ∃ (j : Nat) (b : Bool), j ≤ k ∧ i = .int .i64 j ∧ f = .bool b ∧ Hid (b = true ↔ ∀ q (e : NodeD), q < j → l[q]? = some e → e.name ≠ d.name) ∧ Hid (Below w7.heap.size w7 wq)) (fun _ i _ => k - (intOf i).toNat)
              case atStart => exact ⟨0, true, Nat.zero_le _, rfl, rfl, Lib.hid ⟨fun _ q e h => by omega, fun _ => rfl⟩, hb⟩
              case round =>
                obtain ⟨j, b, hj, rfl, rfl, hbi, hb⟩ := hrel
                by_cases hlt2 : j < k
                · obtain ⟨e, he⟩ := get_some (show j < l.length by omega)
                  have He := Lib.hid he
                  obtain ⟨nb, no, haa, c0, -, -, -⟩ := node_at (HN7.out.ext hb.out) he
                  obtain ⟨nb2, no2, hab, c1, -, -, -⟩ := node_at (HN7.out.ext hb.out) Hd.out
                  obtain ⟨rfl, rfl⟩ : nb = nb2 ∧ no = no2 := by rw [haa] at hab; simpa using hab
                  subst haa
                  have hjl : j < l.length := by omega
                  clear he hab
                  cases b
                  · go_wp2_with fail
                    refine wp_region_held_drew (S := fun w' => w'.cell? ⟨nb, no + j * 2, none⟩ = some (.string ⟨e.name.toArray⟩) ∧ w'.cell? ⟨nb, no + k * 2, none⟩ = some (.string ⟨d.name.toArray⟩)) (by kernel_rfl) ?_ (fun hHeld => ?_)
                    · exact ⟨c0, c1⟩
                    refine wpAnyH_take (i := 0) (oi := ⟨some 70, _, _, _, _, _⟩) (v := ?_) rfl (by kernel_rfl) (by kernel_rfl) (by kernel_rfl) (fun _ _ _ h => h) (Or.inl ⟨by rfl, ?_⟩) (by assumption) ?_; rotate_left; focus (intro w hSw; (try dsimp only at hSw); first | (go_simp; done) | (go_simp; with_reducible rfl))
                    try simp only [Act.put]
                    try simp only [List.setIfInBounds_toArray]
                    try simp only [List.set_cons_succ, List.set_cons_zero]
                    refine wpAnyH_take (i := 1) (oi := ⟨some 71, _, _, _, _, _⟩) (v := ?_) rfl (by kernel_rfl) (by kernel_rfl) (by kernel_rfl) (fun _ _ _ h => h) (Or.inl ⟨by rfl, ?_⟩) (by assumption) ?_; rotate_left; focus (intro w hSw; (try dsimp only at hSw); first | (go_simp; done) | (go_simp; with_reducible rfl))
                    try simp only [Act.put]
                    try simp only [List.setIfInBounds_toArray]
                    try simp only [List.set_cons_succ, List.set_cons_zero]
                    refine wpAnyH_take (i := 2) (oi := ⟨some 72, _, _, _, _, _⟩) (v := undef) rfl (by kernel_rfl) (by kernel_rfl) (by kernel_rfl) (fun _ _ _ h => h) (Or.inr ⟨by rfl, rfl⟩) (by assumption) ?_
                    try simp only [Act.put]
                    try simp only [List.setIfInBounds_toArray]
                    try simp only [List.set_cons_succ, List.set_cons_zero]
                    refine wpAnyH_take (i := 3) (oi := ⟨some 73, _, _, _, _, _⟩) (v := undef) rfl (by kernel_rfl) (by kernel_rfl) (by kernel_rfl) (fun _ _ _ h => h) (Or.inr ⟨by rfl, rfl⟩) (by assumption) ?_
                    try simp only [Act.put]
                    try simp only [List.setIfInBounds_toArray]
                    try simp only [List.set_cons_succ, List.set_cons_zero]
                    refine wpAnyH_take (i := 4) (oi := ⟨some 74, _, _, _, _, _⟩) (v := undef) rfl (by kernel_rfl) (by kernel_rfl) (by kernel_rfl) (fun _ _ _ h => h) (Or.inr ⟨by rfl, rfl⟩) (by assumption) ?_
                    try simp only [Act.put]
                    try simp only [List.setIfInBounds_toArray]
                    try simp only [List.set_cons_succ, List.set_cons_zero]
                    refine wpAnyH_take (i := 5) (oi := ⟨some 75, _, _, _, _, _⟩) (v := undef) rfl (by kernel_rfl) (by kernel_rfl) (by kernel_rfl) (fun _ _ _ h => h) (Or.inr ⟨by rfl, rfl⟩) (by assumption) ?_
                    try simp only [Act.put]
                    try simp only [List.setIfInBounds_toArray]
                    try simp only [List.set_cons_succ, List.set_cons_zero]
                    refine wpAnyH_take (i := 6) (oi := ⟨some 76, _, _, _, _, _⟩) (v := undef) rfl (by kernel_rfl) (by kernel_rfl) (by kernel_rfl) (fun _ _ _ h => h) (Or.inr ⟨by rfl, rfl⟩) (by assumption) ?_
                    try simp only [Act.put]
                    try simp only [List.setIfInBounds_toArray]
                    try simp only [List.set_cons_succ, List.set_cons_zero]
                    refine wpAnyH_take (i := 7) (oi := ⟨some 77, _, _, _, _, _⟩) (v := undef) rfl (by kernel_rfl) (by kernel_rfl) (by kernel_rfl) (fun _ _ _ h => h) (Or.inr ⟨by rfl, rfl⟩) (by assumption) ?_
                    try simp only [Act.put]
                    try simp only [List.setIfInBounds_toArray]
                    try simp only [List.set_cons_succ, List.set_cons_zero]
                    refine wpAnyH_take (i := 8) (oi := ⟨some 78, _, _, _, _, _⟩) (v := undef) rfl (by kernel_rfl) (by kernel_rfl) (by kernel_rfl) (fun _ _ _ h => h) (Or.inr ⟨by rfl, rfl⟩) (by assumption) ?_
                    try simp only [Act.put]
                    try simp only [List.setIfInBounds_toArray]
                    try simp only [List.set_cons_succ, List.set_cons_zero]
                    refine wpAnyH_take (i := 9) (oi := ⟨some 79, _, _, _, _, _⟩) (v := undef) rfl (by kernel_rfl) (by kernel_rfl) (by kernel_rfl) (fun _ _ _ h => h) (Or.inr ⟨by rfl, rfl⟩) (by assumption) ?_
                    try simp only [Act.put]
                    try simp only [List.setIfInBounds_toArray]
                    try simp only [List.set_cons_succ, List.set_cons_zero]
                    refine wpAnyH_take (i := 10) (oi := ⟨some 80, _, _, _, _, _⟩) (v := undef) rfl (by kernel_rfl) (by kernel_rfl) (by kernel_rfl) (fun _ _ _ h => h) (Or.inr ⟨by rfl, rfl⟩) (by assumption) ?_
                    try simp only [Act.put]
                    try simp only [List.setIfInBounds_toArray]
                    try simp only [List.set_cons_succ, List.set_cons_zero]
                    refine wpAnyH_take (i := 11) (oi := ⟨some 81, _, _, _, _, _⟩) (v := undef) rfl (by kernel_rfl) (by kernel_rfl) (by kernel_rfl) (fun _ _ _ h => h) (Or.inr ⟨by rfl, rfl⟩) (by assumption) ?_
                    try simp only [Act.put]
                    try simp only [List.setIfInBounds_toArray]
                    try simp only [List.set_cons_succ, List.set_cons_zero]
                    refine wpAnyH_take (i := 12) (oi := ⟨some 82, _, _, _, _, _⟩) (v := undef) rfl (by kernel_rfl) (by kernel_rfl) (by kernel_rfl) (fun _ _ _ h => h) (Or.inr ⟨by rfl, rfl⟩) (by assumption) ?_
                    try simp only [Act.put]
                    try simp only [List.setIfInBounds_toArray]
                    try simp only [List.set_cons_succ, List.set_cons_zero]
                    refine wpAnyH_take (i := 13) (oi := ⟨some 83, _, _, _, _, _⟩) (v := ?_) rfl (by kernel_rfl) (by kernel_rfl) (by kernel_rfl) (fun _ _ _ h => h) (Or.inl ⟨by rfl, ?_⟩) (by assumption) ?_; rotate_left; focus (intro w hSw; (try dsimp only at hSw); first | (go_simp; done) | (go_simp; with_reducible rfl))
                    try simp only [Act.put]
                    try simp only [List.setIfInBounds_toArray]
                    try simp only [List.set_cons_succ, List.set_cons_zero]
                    refine wpAnyH_take (i := 14) (oi := ⟨some 11, _, _, _, _, _⟩) (v := ?_) rfl (by kernel_rfl) (by kernel_rfl) (by kernel_rfl) (fun _ _ _ h => h) (Or.inl ⟨by rfl, ?_⟩) (by assumption) ?_; rotate_left; focus (intro w hSw; (try dsimp only at hSw); first | (go_simp; done) | (go_simp; with_reducible rfl))
                    try simp only [Act.put]
                    try simp only [List.setIfInBounds_toArray]
                    try simp only [List.set_cons_succ, List.set_cons_zero]
                    refine wpAnyH_done (by kernel_rfl) ?_ _
                    have hbi2 : (false = true ↔ ∀ q (e : NodeD), q < j + 1 → l[q]? = some e → e.name ≠ d.name) := by
                      constructor
                      · intro h; cases h
                      · intro h; exact hbi.out.2 fun q e hq => h q e (by omega)
                    go_wp2
                    go_roundw
                    case rel => exact ⟨j + 1, false, by omega, by go_num, rfl, Lib.hid hbi2, Lib.hid (by first | exact hb.out | exact hb.out.drew)⟩
                    case measure => simp [intOf]; omega
                  · go_wp2_with fail
                    refine wp_region_held_drew (S := fun w' => w'.cell? ⟨nb, no + j * 2, none⟩ = some (.string ⟨e.name.toArray⟩) ∧ w'.cell? ⟨nb, no + k * 2, none⟩ = some (.string ⟨d.name.toArray⟩)) (by kernel_rfl) ?_ (fun hHeld => ?_)
                    · exact ⟨c0, c1⟩
                    refine wpAnyH_take (i := 0) (oi := ⟨some 70, _, _, _, _, _⟩) (v := ?_) rfl (by kernel_rfl) (by kernel_rfl) (by kernel_rfl) (fun _ _ _ h => h) (Or.inl ⟨by rfl, ?_⟩) (by assumption) ?_; rotate_left; focus (intro w hSw; (try dsimp only at hSw); first | (go_simp; done) | (go_simp; with_reducible rfl))
                    try simp only [Act.put]
                    try simp only [List.setIfInBounds_toArray]
                    try simp only [List.set_cons_succ, List.set_cons_zero]
                    refine wpAnyH_take (i := 1) (oi := ⟨some 71, _, _, _, _, _⟩) (v := ?_) rfl (by kernel_rfl) (by kernel_rfl) (by kernel_rfl) (fun _ _ _ h => h) (Or.inl ⟨by rfl, ?_⟩) (by assumption) ?_; rotate_left; focus (intro w hSw; (try dsimp only at hSw); first | (go_simp; done) | (go_simp; with_reducible rfl))
                    try simp only [Act.put]
                    try simp only [List.setIfInBounds_toArray]
                    try simp only [List.set_cons_succ, List.set_cons_zero]
                    refine wpAnyH_take (i := 2) (oi := ⟨some 72, _, _, _, _, _⟩) (v := ?_) rfl (by kernel_rfl) (by kernel_rfl) (by kernel_rfl) (fun _ _ _ h => h) (Or.inl ⟨by rfl, ?_⟩) (by assumption) ?_; rotate_left; focus (intro w hSw; (try dsimp only at hSw); first | (go_simp; done) | (go_simp; with_reducible rfl))
                    try simp only [Act.put]
                    try simp only [List.setIfInBounds_toArray]
                    try simp only [List.set_cons_succ, List.set_cons_zero]
                    refine wpAnyH_take (i := 3) (oi := ⟨some 73, _, _, _, _, _⟩) (v := ?_) rfl (by kernel_rfl) (by kernel_rfl) (by kernel_rfl) (fun _ _ _ h => h) (Or.inl ⟨by rfl, ?_⟩) (by assumption) ?_; rotate_left; focus (intro w hSw; (try dsimp only at hSw); first | (go_simp; done) | (go_simp; with_reducible rfl))
                    try simp only [Act.put]
                    try simp only [List.setIfInBounds_toArray]
                    try simp only [List.set_cons_succ, List.set_cons_zero]
                    refine wpAnyH_take (i := 4) (oi := ⟨some 74, _, _, _, _, _⟩) (v := ?_) rfl (by kernel_rfl) (by kernel_rfl) (by kernel_rfl) (fun _ _ _ h => h) (Or.inl ⟨by rfl, ?_⟩) (by assumption) ?_; rotate_left; focus (intro w hSw; (try dsimp only at hSw); first | (go_simp; done) | (go_simp; with_reducible rfl))
                    try simp only [Act.put]
                    try simp only [List.setIfInBounds_toArray]
                    try simp only [List.set_cons_succ, List.set_cons_zero]
                    refine wpAnyH_take (i := 5) (oi := ⟨some 75, _, _, _, _, _⟩) (v := ?_) rfl (by kernel_rfl) (by kernel_rfl) (by kernel_rfl) (fun _ _ _ h => h) (Or.inl ⟨by rfl, ?_⟩) (by assumption) ?_; rotate_left; focus (intro w hSw; (try dsimp only at hSw); first | (go_simp; done) | (go_simp; with_reducible rfl))
                    try simp only [Act.put]
                    try simp only [List.setIfInBounds_toArray]
                    try simp only [List.set_cons_succ, List.set_cons_zero]
                    refine wpAnyH_take (i := 6) (oi := ⟨some 76, _, _, _, _, _⟩) (v := ?_) rfl (by kernel_rfl) (by kernel_rfl) (by kernel_rfl) (fun _ _ _ h => h) (Or.inl ⟨by rfl, ?_⟩) (by assumption) ?_; rotate_left; focus (intro w hSw; (try dsimp only at hSw); first | (go_simp; done) | (go_simp; with_reducible rfl))
                    try simp only [Act.put]
                    try simp only [List.setIfInBounds_toArray]
                    try simp only [List.set_cons_succ, List.set_cons_zero]
                    refine wpAnyH_take (i := 7) (oi := ⟨some 77, _, _, _, _, _⟩) (v := ?_) rfl (by kernel_rfl) (by kernel_rfl) (by kernel_rfl) (fun _ _ _ h => h) (Or.inl ⟨by rfl, ?_⟩) (by assumption) ?_; rotate_left; focus (intro w hSw; (try dsimp only at hSw); first | (go_simp; done) | (go_simp; with_reducible rfl))
                    try simp only [Act.put]
                    try simp only [List.setIfInBounds_toArray]
                    try simp only [List.set_cons_succ, List.set_cons_zero]
                    refine wpAnyH_take (i := 8) (oi := ⟨some 78, _, _, _, _, _⟩) (v := ?_) rfl (by kernel_rfl) (by kernel_rfl) (by kernel_rfl) (fun _ _ _ h => h) (Or.inl ⟨by rfl, ?_⟩) (by assumption) ?_; rotate_left; focus (intro w hSw; (try dsimp only at hSw); first | (go_simp; done) | (go_simp; with_reducible rfl))
                    try simp only [Act.put]
                    try simp only [List.setIfInBounds_toArray]
                    try simp only [List.set_cons_succ, List.set_cons_zero]
                    refine wpAnyH_take (i := 9) (oi := ⟨some 79, _, _, _, _, _⟩) (v := ?_) rfl (by kernel_rfl) (by kernel_rfl) (by kernel_rfl) (fun _ _ _ h => h) (Or.inl ⟨by rfl, ?_⟩) (by assumption) ?_; rotate_left; focus (intro w hSw; (try dsimp only at hSw); first | (go_simp; done) | (go_simp; with_reducible rfl))
                    try simp only [Act.put]
                    try simp only [List.setIfInBounds_toArray]
                    try simp only [List.set_cons_succ, List.set_cons_zero]
                    refine wpAnyH_take (i := 10) (oi := ⟨some 80, _, _, _, _, _⟩) (v := ?_) rfl (by kernel_rfl) (by kernel_rfl) (by kernel_rfl) (fun _ _ _ h => h) (Or.inl ⟨by rfl, ?_⟩) (by assumption) ?_; rotate_left; focus (intro w hSw; (try dsimp only at hSw); first | (go_simp; done) | (go_simp; with_reducible rfl))
                    try simp only [Act.put]
                    try simp only [List.setIfInBounds_toArray]
                    try simp only [List.set_cons_succ, List.set_cons_zero]
                    refine wpAnyH_take (i := 11) (oi := ⟨some 81, _, _, _, _, _⟩) (v := ?_) rfl (by kernel_rfl) (by kernel_rfl) (by kernel_rfl) (fun _ _ _ h => h) (Or.inl ⟨by rfl, ?_⟩) (by assumption) ?_; rotate_left; focus (intro w hSw; (try dsimp only at hSw); first | (go_simp; done) | (go_simp; with_reducible rfl))
                    try simp only [Act.put]
                    try simp only [List.setIfInBounds_toArray]
                    try simp only [List.set_cons_succ, List.set_cons_zero]
                    refine wpAnyH_take (i := 12) (oi := ⟨some 82, _, _, _, _, _⟩) (v := ?_) rfl (by kernel_rfl) (by kernel_rfl) (by kernel_rfl) (fun _ _ _ h => h) (Or.inl ⟨by rfl, ?_⟩) (by assumption) ?_; rotate_left; focus (intro w hSw; (try dsimp only at hSw); first | (go_simp; done) | (go_simp; with_reducible rfl))
                    try simp only [Act.put]
                    try simp only [List.setIfInBounds_toArray]
                    try simp only [List.set_cons_succ, List.set_cons_zero]
                    refine wpAnyH_take (i := 13) (oi := ⟨some 83, _, _, _, _, _⟩) (v := ?_) rfl (by kernel_rfl) (by kernel_rfl) (by kernel_rfl) (fun _ _ _ h => h) (Or.inl ⟨by rfl, ?_⟩) (by assumption) ?_; rotate_left; focus (intro w hSw; (try dsimp only at hSw); first | (go_simp; done) | (go_simp; with_reducible rfl))
                    try simp only [Act.put]
                    try simp only [List.setIfInBounds_toArray]
                    try simp only [List.set_cons_succ, List.set_cons_zero]
                    refine wpAnyH_take (i := 14) (oi := ⟨some 11, _, _, _, _, _⟩) (v := ?_) rfl (by kernel_rfl) (by kernel_rfl) (by kernel_rfl) (fun _ _ _ h => h) (Or.inl ⟨by rfl, ?_⟩) (by assumption) ?_; rotate_left; focus (intro w hSw; (try dsimp only at hSw); first | (go_simp; done) | (go_simp; with_reducible rfl))
                    try simp only [Act.put]
                    try simp only [List.setIfInBounds_toArray]
                    try simp only [List.set_cons_succ, List.set_cons_zero]
                    refine wpAnyH_done (by kernel_rfl) ?_ _
                    have hbi2 : (decide (e.name ≠ d.name) = true ↔ ∀ q (e : NodeD), q < j + 1 → l[q]? = some e → e.name ≠ d.name) := by
                      rw [decide_eq_true_iff]
                      constructor
                      · intro h q e' hq he'
                        rcases Nat.lt_succ_iff_lt_or_eq.1 hq with hq | rfl
                        · exact hbi.out.1 (by simp) q e' hq he'
                        · have := He.out; rw [this] at he'; cases he'; exact h
                      · intro h; exact h j e (by omega) He.out
                    go_wp2
                    go_roundw
                    case rel => exact ⟨j + 1, decide (e.name ≠ d.name), by omega, by go_num, by first | rfl | (simp; done) | (by_cases q : e.name = d.name <;> simp [q]; done), Lib.hid hbi2, Lib.hid (by first | exact hb.out | exact hb.out.drew)⟩
                    case measure => simp [intOf]; omega
                · obtain rfl : j = k := by omega
                  obtain ⟨nb, no, rfl, c0, c1, -, hrc⟩ := node_at (HN7.out.ext hb.out) Hd.out
                  have Hrc := Lib.hid hrc
                  have hcl := HCL.out d (List.mem_of_getElem? Hd.out)
                  have Hh : Hid (∀ y W, Below wr.heap.size wr W → Calls Try.prog 23 #[.slice au us.length cu, .string ⟨y.toArray⟩] W fun e w' => e = .returned (.bool (decide (y ∈ us))) ∧ W = w') := Lib.hid fun y W h => has_any au cu us y W ((HU7.out.ext hb.out).ext h) (by omega)
                  have Hb9 := hb
                  clear hrc hb
                  go_wp2_with fail
                  go_loopw [13] (fun i wq => ∃ m : Nat, m ≤ d.calls.length ∧ i = .int .i64 m ∧ Hid (Below wr.heap.size wr wq)) (fun i _ => d.calls.length - (intOf i).toNat)
                  case atStart => exact ⟨0, Nat.zero_le _, rfl, Lib.hid (Below.refl _ _)⟩
                  case round =>
                    obtain ⟨m, hm, rfl, hb⟩ := hrel
                    have Hbb := Lib.hid (Hb9.out.trans (hb.out.mono Hb9.out.size))
                    obtain ⟨nb2, no2, hab, d0, d1, -, -⟩ := node_at (HN7.out.ext Hbb.out) Hd.out
                    obtain ⟨rfl, rfl⟩ : nb = nb2 ∧ no = no2 := by simpa using hab
                    clear hab c0 c1
                    by_cases hlt3 : m < d.calls.length
                    · cases b
                      · go_wp2
                        go_roundw
                        case rel => first | exact ⟨k + 1, by omega, by go_num, Hbb⟩ | exact ⟨j + 1, by omega, by go_num, Hbb⟩
                        case measure => simp [intOf]; omega
                      · obtain ⟨y, hy⟩ := get_some hlt3
                        obtain ⟨yb, yo, hya, y0⟩ := str_at (Hrc.out.ext hb.out) hy
                        have Hy := Lib.hid (List.mem_of_getElem? hy)
                        clear hy
                        go_wp2_with fail
                        refine (Hh.out y _ (by first | exact hb.out | exact hb.out.drew)).mono ?_
                        rintro e w8 ⟨rfl, rfl⟩
                        by_cases hyu : y ∈ us
                        · have hn : d.name ∈ us := users_closed HU.out.2.2 Hd.out (hbi.out.1 (by first | rfl | simp)) Hy.out hyu
                          rw [decide_eq_true hyu]
                          go_wp2_with fail
                          refine (Hh.out d.name _ (by first | exact hb.out | exact hb.out.drew | exact hb.out.drew.drew)).mono ?_
                          rintro e w9 ⟨rfl, rfl⟩
                          rw [decide_eq_true hn]
                          go_wp2
                          go_roundw
                          case rel => exact ⟨m + 1, by omega, by go_num, Lib.hid (by first | exact hb.out | exact hb.out.drew | exact hb.out.drew.drew)⟩
                          case measure => simp [intOf]; omega
                        · rw [decide_eq_false hyu]
                          go_wp2
                          go_roundw
                          case rel => exact ⟨m + 1, by omega, by go_num, Lib.hid (by first | exact hb.out | exact hb.out.drew | exact hb.out.drew.drew)⟩
                          case measure => simp [intOf]; omega
                    · obtain rfl : m = d.calls.length := by omega
                      go_wp2
                      go_roundw
                      case rel => first | exact ⟨k + 1, by omega, by go_num, Hbb⟩ | exact ⟨j + 1, by omega, by go_num, Hbb⟩
                      case measure => simp [intOf]; omega
            · obtain rfl : k = l.length := by omega
              have B1 := Hb7.out.trans (hb.out.mono Hb7.out.size)
              have HB1 := Lib.hid B1
              clear B1
              go_wp2_with fail
              refine (H8.out _).mono ?_
              rintro e w8 ⟨_, rfl, hb8, rfl⟩
              have Hb8 := Lib.hid ((by first | exact HB1.out.trans (hb8.mono HB1.out.size) | exact HB1.out.drew.trans (hb8.mono HB1.out.drew.size)) : Below w.heap.size w w8)
              clear hb8
              go_wp2_with fail
              refine (H14.out _ Hb8.out).mono ?_
              rintro e w9 ⟨_, rfl, hb9, a9, c9, rfl, hn9⟩
              have hu := users_any a9 none c9 0 l [] w9 hn9 HL.out (Row.nil _ _ _) (by decide) (by simp)
              simp only [List.length_nil] at hu
              have Hu := Lib.hid hu
              have Hb9 := Lib.hid (Hb8.out.trans (hb9.mono Hb8.out.size))
              clear hu hb9 hn9
              go_wp2_with fail
              refine Hu.out.mono ?_
              clear Hu
              rintro e w10 ⟨_, rfl, hb10, us3, au3, cu3, rfl, -, -, -, hum3⟩
              obtain rfl : us3 = [] := List.eq_nil_iff_forall_not_mem.2 fun x hx => by have := (hum3 x).1 hx; simp at this
              have Hb10 := Lib.hid (Hb9.out.trans (hb10.mono Hb9.out.size))
              clear hum3 hb10
              go_wp2
              go_ret
              exact ⟨_, rfl, Hb10.out, rfl⟩
end Go.Proofs.Ytnepamdmjppglaa
