/- The law on the order of groups: walked. -/
import Derived.Test.YtnepamdmjppglaaLawU
import Derived.Test.YtnepamdmjppglaaPlace
namespace Go.Proofs.Ytnepamdmjppglaa
open Go Go.RowKit

/-- how many stand in the first groups -/
def gcnt (gs : List (List Nm)) (k : Nat) : Nat := (gs.take k).flatten.length
theorem gcnt_succ {gs : List (List Nm)} {k : Nat} {a : List Nm} (h : gs[k]? = some a) : gcnt gs (k + 1) = gcnt gs k + a.length := by
  unfold gcnt
  rw [List.take_add_one, h, Option.toList_some, List.flatten_append, List.flatten_singleton, List.length_append]
theorem gcnt_all (gs : List (List Nm)) : gcnt gs gs.length = gs.flatten.length := by unfold gcnt; rw [List.take_length]
theorem gcnt_le (gs : List (List Nm)) (k : Nat) : gcnt gs k ≤ gs.flatten.length := by
  unfold gcnt
  have h := congrArg (fun l => (List.flatten l).length) (List.take_append_drop k gs)
  simp only [List.flatten_append, List.length_append] at h
  omega
theorem flat_le {l : List NodeD} {gs : List (List Nm)} (h : Seqs (G l) (fun x y => x < y) (names l) gs) : gs.flatten.length ≤ l.length := by
  have := List.Nodup.length_le_of_subset h.flat.1 (l₂ := names l) h.flat.2
  simpa [names] using this

set_option maxHeartbeats 4000000 in
set_option maxRecDepth 20000 in
theorem lawO_any (a : Option Addr) (c : Nat) (l : List NodeD) (w : World) (hn : NodesAt w a l) (hl : SmallN l) :
    Calls Try.prog 5 #[.slice a l.length c] w (Ret w fun v _ => v = .bool true) := by
  have hlen : l.length ≤ 1048576 := hl.len
  have hcl : ∀ d ∈ l, d.calls.length ≤ 1048576 := fun d hd => by have := total_mem hd; have := hl.tot; unfold M20 at this; omega
  have hfits := fits_any a c l w hn hlen hcl
  have HN := Lib.hid hn
  have HL := Lib.hid hl
  have HCL := Lib.hid hcl
  have H14 : Hid (∀ W, Below w.heap.size w W → Calls Try.prog 14 #[.slice a l.length c] W (Ret W fun v w' => ∃ a' c', v = .slice a' l.length c' ∧ NodesAt w' a' l)) := Lib.hid fun W hb => nodes_any a c l W (hn.ext hb) hlen
  have H8 : Hid (∀ W, Calls Try.prog 8 #[] W (Ret W fun v _ => v = .bool true)) := Lib.hid alive_any
  clear hn hl hcl
  go_enter Try.func5, Try.ntmps5
  go_wp2_with fail
  refine hfits.mono ?_
  clear hfits
  rintro e w1 ⟨_, rfl, hb1, bf, rfl⟩
  have Hb1 := Lib.hid hb1
  clear hb1
  cases bf
  · go_wp2_with fail
    refine (H8.out w1).mono ?_
    rintro e w2 ⟨_, rfl, hb2, rfl⟩
    go_wp2
    go_ret
    exact ⟨_, rfl, Hb1.out.trans (hb2.mono Hb1.out.size), rfl⟩
  · go_wp2_with fail
    refine (H14.out _ Hb1.out).mono ?_
    rintro e w2 ⟨_, rfl, hb2, a2, c2, rfl, hn2⟩
    have Hb2 := Lib.hid (Hb1.out.trans (hb2.mono Hb1.out.size))
    have hg := groups_any a2 c2 l w2 hn2 HL.out
    have Hg := Lib.hid hg
    clear hg hb2 hn2
    go_wp2_with fail
    refine Hg.out.mono ?_
    clear Hg
    rintro e w3 ⟨_, rfl, hb3, gs, ag, cg, rfl, hog, hrg, hgl, hgr, hseq, hall⟩
    have Hb3 := Lib.hid (Hb2.out.trans (hb3.mono Hb2.out.size))
    have HG := Lib.hid hog.row
    have HR := Lib.hid hrg
    have HQ := Lib.hid (And.intro hseq hall)
    have HGR := Lib.hid hgr
    have hfl := flat_le hseq
    have HP : Hid (∀ x W, Below w3.heap.size w3 W → Calls Try.prog 21 #[.slice ag gs.length cg, .string ⟨x.toArray⟩] W fun e w' => e = .returned (.int .i64 (placeOf (gs.map RowD.l) x)) ∧ W = w') := Lib.hid fun x W h => place_any ag cg gs x W (hog.row.ext h) (fun r hr => (hrg r hr).ext h) (by omega) (fun r hr => by have := hgr r hr; omega)
    have H14c : Hid (∀ W, Below w3.heap.size w3 W → Calls Try.prog 14 #[.slice a l.length c] W (Ret W fun v w' => ∃ a' c', v = .slice a' l.length c' ∧ NodesAt w' a' l)) := Lib.hid fun W hb => H14.out W (Hb3.out.trans (hb.mono Hb3.out.size))
    clear hb3 hog hrg hgr hseq hall Hb1 Hb2 H14
    go_wp2_with fail
    go_loopw [5, 6] (fun n i wq => ∃ k : Nat, k ≤ gs.length ∧ i = .int .i64 k ∧ n = .int .i64 (gcnt (gs.map RowD.l) k : Nat) ∧ Hid (Below w3.heap.size w3 wq)) (fun _ i _ => gs.length - (intOf i).toNat)
    case atStart => exact ⟨0, Nat.zero_le _, rfl, rfl, Lib.hid (Below.refl _ _)⟩
    case round =>
      obtain ⟨k, hk, rfl, rfl, hb⟩ := hrel
      by_cases hlt : k < gs.length
      · obtain ⟨r, hr⟩ := get_some hlt
        have hrm := List.mem_of_getElem? hr
        have hgk : (gs.map RowD.l)[k]? = some r.l := by rw [List.getElem?_map, hr]; rfl
        have hnx := (HQ.out.1.at hgk).may.grp
        have Hgrp := Lib.hid hnx
        have hpos : 0 < r.l.length := List.length_pos_iff.2 hnx.ne
        have Hcs := Lib.hid (gcnt_succ hgk)
        have hcl := gcnt_le (gs.map RowD.l) (k + 1)
        rw [Hcs.out] at hcl
        have Hgk := Lib.hid hgk
        have Hr := Lib.hid hr
        have Hrm := Lib.hid hrm
        obtain ⟨gb, go_, rfl, v1⟩ := (HG.out.ext hb.out).elem1 hr
        have u1 : wr.cell? ⟨gb, go_ + k, none⟩ = some (.slice r.a r.l.length r.c) := v1
        clear v1 hr hrm hgk hnx
        have hz0 : ((r.l.length : Int) == 0) = false := beq_eq_false_iff_ne.2 (by omega)
        go_wp2_with fail
        clear hz0
        go_loopw [7] (fun i wq => ∃ j : Nat, j ≤ r.l.length ∧ i = .int .i64 j ∧ Hid (Below w3.heap.size w3 wq)) (fun i _ => r.l.length - (intOf i).toNat)
        case atStart => exact ⟨0, Nat.zero_le _, rfl, hb⟩
        case round =>
          obtain ⟨j, hj, rfl, hb⟩ := hrel
          obtain ⟨gb2, go2, hab, v1⟩ := (HG.out.ext hb.out).elem1 Hr.out
          obtain ⟨rfl, rfl⟩ : gb = gb2 ∧ go_ = go2 := by simpa using hab
          have u2 : wr.cell? ⟨gb, go_ + k, none⟩ = some (.slice r.a r.l.length r.c) := v1
          clear v1 hab u1
          by_cases hlt2 : j < r.l.length
          · obtain ⟨x, hx⟩ := get_some hlt2
            obtain ⟨xb, xo, hxa, x0⟩ := str_at ((HR.out r Hrm.out).ext hb.out) hx
            rw [hxa] at u2
            have hxm := List.mem_of_getElem? hx
            have hpl : placeOf (gs.map RowD.l) x = (k : Int) := placeOf_in HQ.out.1 Hgk.out hxm
            have Hpl := Lib.hid hpl
            have Hxm := Lib.hid hxm
            have Hx := Lib.hid hx
            have Hxa := Lib.hid hxa
            have hcur : Hid (Below w3.heap.size w3 wr.drew) := Lib.hid hb.out.drew
            have Hxl : Hid (x.length ≤ maxLen) := Lib.hid (by
              obtain ⟨d, hd, rfl⟩ := mem_names.1 (HQ.out.1.flat.2 x (List.mem_flatten.2 ⟨r.l, List.mem_of_getElem? Hgk.out, hxm⟩))
              have := HL.out.name d hd
              unfold M20 at this; unfold maxLen; omega)
            clear hpl hxm hx hxa
            by_cases h1 : 1 < r.l.length
            · have h1i : (1 : Int) < (r.l.length : Int) := by omega
              by_cases h0 : 0 < j
              · obtain ⟨y, hy⟩ := get_some (show j - 1 < r.l.length by omega)
                obtain ⟨yb, yo, hya, y0⟩ := str_at ((HR.out r Hrm.out).ext hb.out) hy
                obtain ⟨rfl, rfl⟩ : xb = yb ∧ xo = yo := by rw [Hxa.out] at hya; simpa using hya
                have hyx : y < x := by
                  have := List.pairwise_iff_getElem.1 Hgrp.out.rising (j - 1) j (by omega) hlt2 (by omega)
                  rwa [(List.getElem?_eq_some_iff.1 hy).2, (List.getElem?_eq_some_iff.1 Hx.out).2] at this
                have Hyx := Lib.hid hyx
                have fyx : Op.bytesLess y x = true := by rw [bytesLess_eq]; simpa using hyx
                have hwj : IntKind.i64.wrap ((j : Int) - 1) = ((j - 1 : Nat) : Int) := by
                  have hjl : r.l.length ≤ 1048576 := by omega
                  simp [IntKind.wrap, IntKind.bits, IntKind.signed]; omega
                have hj2 : j - 1 < r.l.length := by omega
                clear hyx hya hy
                go_wp2_with fail
                refine wp_region_held_drew (S := fun w' => w'.cell? ⟨gb, go_ + k, none⟩ = some (.slice (some ⟨xb, xo, none⟩) r.l.length r.c) ∧ w'.cell? ⟨xb, xo + j, none⟩ = some (.string ⟨x.toArray⟩) ∧ w'.cell? ⟨xb, xo + (j - 1), none⟩ = some (.string ⟨y.toArray⟩)) (by kernel_rfl) ?_ (fun hHeld => ?_)
                · exact ⟨u2, x0, y0⟩
                refine wpAnyH_take (i := 0) (oi := ⟨some 50, _, _, _, _, _⟩) (v := ?_) rfl (by kernel_rfl) (by kernel_rfl) (by kernel_rfl) (fun _ _ _ h => h) (Or.inl ⟨by rfl, ?_⟩) (by assumption) ?_; rotate_left; focus (intro w hSw; (try dsimp only at hSw); first | (go_simp; done) | (go_simp; with_reducible rfl))
                try simp only [Act.put]
                try simp only [List.setIfInBounds_toArray]
                try simp only [List.set_cons_succ, List.set_cons_zero]
                refine wpAnyH_take (i := 1) (oi := ⟨some 51, _, _, _, _, _⟩) (v := ?_) rfl (by kernel_rfl) (by kernel_rfl) (by kernel_rfl) (fun _ _ _ h => h) (Or.inl ⟨by rfl, ?_⟩) (by assumption) ?_; rotate_left; focus (intro w hSw; (try dsimp only at hSw); first | (go_simp; done) | (go_simp; with_reducible rfl))
                try simp only [Act.put]
                try simp only [List.setIfInBounds_toArray]
                try simp only [List.set_cons_succ, List.set_cons_zero]
                refine wpAnyH_take (i := 2) (oi := ⟨some 52, _, _, _, _, _⟩) (v := ?_) rfl (by kernel_rfl) (by kernel_rfl) (by kernel_rfl) (fun _ _ _ h => h) (Or.inl ⟨by rfl, ?_⟩) (by assumption) ?_; rotate_left; focus (intro w hSw; (try dsimp only at hSw); first | (go_simp; done) | (go_simp; with_reducible rfl))
                try simp only [Act.put]
                try simp only [List.setIfInBounds_toArray]
                try simp only [List.set_cons_succ, List.set_cons_zero]
                refine wpAnyH_take (i := 3) (oi := ⟨some 53, _, _, _, _, _⟩) (v := ?_) rfl (by kernel_rfl) (by kernel_rfl) (by kernel_rfl) (fun _ _ _ h => h) (Or.inl ⟨by rfl, ?_⟩) (by assumption) ?_; rotate_left; focus (intro w hSw; (try dsimp only at hSw); first | (go_simp; done) | (go_simp; with_reducible rfl))
                try simp only [Act.put]
                try simp only [List.setIfInBounds_toArray]
                try simp only [List.set_cons_succ, List.set_cons_zero]
                refine wpAnyH_take (i := 4) (oi := ⟨some 54, _, _, _, _, _⟩) (v := ?_) rfl (by kernel_rfl) (by kernel_rfl) (by kernel_rfl) (fun _ _ _ h => h) (Or.inl ⟨by rfl, ?_⟩) (by assumption) ?_; rotate_left; focus (intro w hSw; (try dsimp only at hSw); first | (go_simp; done) | (go_simp; with_reducible rfl))
                try simp only [Act.put]
                try simp only [List.setIfInBounds_toArray]
                try simp only [List.set_cons_succ, List.set_cons_zero]
                refine wpAnyH_take (i := 5) (oi := ⟨some 55, _, _, _, _, _⟩) (v := ?_) rfl (by kernel_rfl) (by kernel_rfl) (by kernel_rfl) (fun _ _ _ h => h) (Or.inl ⟨by rfl, ?_⟩) (by assumption) ?_; rotate_left; focus (intro w hSw; (try dsimp only at hSw); first | (go_simp; done) | (go_simp; with_reducible rfl))
                try simp only [Act.put]
                try simp only [List.setIfInBounds_toArray]
                try simp only [List.set_cons_succ, List.set_cons_zero]
                refine wpAnyH_take (i := 6) (oi := ⟨some 56, _, _, _, _, _⟩) (v := ?_) rfl (by kernel_rfl) (by kernel_rfl) (by kernel_rfl) (fun _ _ _ h => h) (Or.inl ⟨by rfl, ?_⟩) (by assumption) ?_; rotate_left; focus (intro w hSw; (try dsimp only at hSw); first | (go_simp; done) | (go_simp; with_reducible rfl))
                try simp only [Act.put]
                try simp only [List.setIfInBounds_toArray]
                try simp only [List.set_cons_succ, List.set_cons_zero]
                refine wpAnyH_take (i := 7) (oi := ⟨some 57, _, _, _, _, _⟩) (v := ?_) rfl (by kernel_rfl) (by kernel_rfl) (by kernel_rfl) (fun _ _ _ h => h) (Or.inl ⟨by rfl, ?_⟩) (by assumption) ?_; rotate_left; focus (intro w hSw; (try dsimp only at hSw); first | (go_simp; done) | (go_simp; with_reducible rfl))
                try simp only [Act.put]
                try simp only [List.setIfInBounds_toArray]
                try simp only [List.set_cons_succ, List.set_cons_zero]
                refine wpAnyH_take (i := 9) (oi := ⟨some 59, _, _, _, _, _⟩) (v := ?_) rfl (by kernel_rfl) (by kernel_rfl) (by kernel_rfl) (fun _ _ _ h => h) (Or.inl ⟨by rfl, ?_⟩) (by assumption) ?_; rotate_left; focus (intro w hSw; (try dsimp only at hSw); first | (go_simp; done) | (go_simp; with_reducible rfl))
                try simp only [Act.put]
                try simp only [List.setIfInBounds_toArray]
                try simp only [List.set_cons_succ, List.set_cons_zero]
                refine wpAnyH_ready (rs := [8]) (by kernel_rfl) (by simp) ?_
                refine AllReadyH.cons (i := 8) (o := ⟨some 58, _, _, _, _, _⟩) rfl (fun K hK => ?_) ?_
                · go_simp
                  refine (HP.out x _ (by first | exact hb.out | exact hb.out.drew)).mono ?_
                  rintro e w5 ⟨rfl, rfl⟩
                  rw [Hpl.out]
                  refine hK.out _ _ ?_ (fun hHeld => ?_)
                  · exact hHeld
                  try simp only [Act.put]
                  try simp only [List.setIfInBounds_toArray]
                  try simp only [List.set_cons_succ, List.set_cons_zero]
                  refine wpAnyH_take (i := 10) (oi := ⟨some 60, _, _, _, _, _⟩) (v := ?_) rfl (by kernel_rfl) (by kernel_rfl) (by kernel_rfl) (fun _ _ _ h => h) (Or.inl ⟨by rfl, ?_⟩) (by assumption) ?_; rotate_left; focus (intro w hSw; (try dsimp only at hSw); first | (go_simp; done) | (go_simp; with_reducible rfl))
                  try simp only [Act.put]
                  try simp only [List.setIfInBounds_toArray]
                  try simp only [List.set_cons_succ, List.set_cons_zero]
                  refine wpAnyH_take (i := 11) (oi := ⟨some 61, _, _, _, _, _⟩) (v := ?_) rfl (by kernel_rfl) (by kernel_rfl) (by kernel_rfl) (fun _ _ _ h => h) (Or.inl ⟨by rfl, ?_⟩) (by assumption) ?_; rotate_left; focus (intro w hSw; (try dsimp only at hSw); first | (go_simp; done) | (go_simp; with_reducible rfl))
                  try simp only [Act.put]
                  try simp only [List.setIfInBounds_toArray]
                  try simp only [List.set_cons_succ, List.set_cons_zero]
                  refine wpAnyH_take (i := 12) (oi := ⟨some 62, _, _, _, _, _⟩) (v := ?_) rfl (by kernel_rfl) (by kernel_rfl) (by kernel_rfl) (fun _ _ _ h => h) (Or.inl ⟨by rfl, ?_⟩) (by assumption) ?_; rotate_left; focus (intro w hSw; (try dsimp only at hSw); first | (go_simp; done) | (go_simp; with_reducible rfl))
                  try simp only [Act.put]
                  try simp only [List.setIfInBounds_toArray]
                  try simp only [List.set_cons_succ, List.set_cons_zero]
                  refine wpAnyH_take (i := 13) (oi := ⟨some 63, _, _, _, _, _⟩) (v := ?_) rfl (by kernel_rfl) (by kernel_rfl) (by kernel_rfl) (fun _ _ _ h => h) (Or.inl ⟨by rfl, ?_⟩) (by assumption) ?_; rotate_left; focus (intro w hSw; (try dsimp only at hSw); first | (go_simp; done) | (go_simp; with_reducible rfl))
                  try simp only [Act.put]
                  try simp only [List.setIfInBounds_toArray]
                  try simp only [List.set_cons_succ, List.set_cons_zero]
                  refine wpAnyH_take (i := 14) (oi := ⟨some 64, _, _, _, _, _⟩) (v := ?_) rfl (by kernel_rfl) (by kernel_rfl) (by kernel_rfl) (fun _ _ _ h => h) (Or.inl ⟨by rfl, ?_⟩) (by assumption) ?_; rotate_left; focus (intro w hSw; (try dsimp only at hSw); first | (go_simp; done) | (go_simp; with_reducible rfl))
                  try simp only [Act.put]
                  try simp only [List.setIfInBounds_toArray]
                  try simp only [List.set_cons_succ, List.set_cons_zero]
                  refine wpAnyH_take (i := 15) (oi := ⟨some 65, _, _, _, _, _⟩) (v := ?_) rfl (by kernel_rfl) (by kernel_rfl) (by kernel_rfl) (fun _ _ _ h => h) (Or.inl ⟨by rfl, ?_⟩) (by assumption) ?_; rotate_left; focus (intro w hSw; (try dsimp only at hSw); first | (go_simp; done) | (go_simp; with_reducible rfl))
                  try simp only [Act.put]
                  try simp only [List.setIfInBounds_toArray]
                  try simp only [List.set_cons_succ, List.set_cons_zero]
                  refine wpAnyH_take (i := 16) (oi := ⟨some 66, _, _, _, _, _⟩) (v := ?_) rfl (by kernel_rfl) (by kernel_rfl) (by kernel_rfl) (fun _ _ _ h => h) (Or.inl ⟨by rfl, ?_⟩) (by assumption) ?_; rotate_left; focus (intro w hSw; (try dsimp only at hSw); first | (go_simp; done) | (go_simp; with_reducible rfl))
                  try simp only [Act.put]
                  try simp only [List.setIfInBounds_toArray]
                  try simp only [List.set_cons_succ, List.set_cons_zero]
                  refine wpAnyH_take (i := 17) (oi := ⟨some 67, _, _, _, _, _⟩) (v := ?_) rfl (by kernel_rfl) (by kernel_rfl) (by kernel_rfl) (fun _ _ _ h => h) (Or.inl ⟨by rfl, ?_⟩) (by assumption) ?_; rotate_left; focus (intro w hSw; (try dsimp only at hSw); first | (go_simp; done) | (go_simp; with_reducible rfl))
                  try simp only [Act.put]
                  try simp only [List.setIfInBounds_toArray]
                  try simp only [List.set_cons_succ, List.set_cons_zero]
                  refine wpAnyH_take (i := 18) (oi := ⟨some 68, _, _, _, _, _⟩) (v := ?_) rfl (by kernel_rfl) (by kernel_rfl) (by kernel_rfl) (fun _ _ _ h => h) (Or.inl ⟨by rfl, ?_⟩) (by assumption) ?_; rotate_left; focus (intro w hSw; (try dsimp only at hSw); first | (go_simp; done) | (go_simp; with_reducible rfl))
                  try simp only [Act.put]
                  try simp only [List.setIfInBounds_toArray]
                  try simp only [List.set_cons_succ, List.set_cons_zero]
                  refine wpAnyH_take (i := 19) (oi := ⟨some 69, _, _, _, _, _⟩) (v := ?_) rfl (by kernel_rfl) (by kernel_rfl) (by kernel_rfl) (fun _ _ _ h => h) (Or.inl ⟨by rfl, ?_⟩) (by assumption) ?_; rotate_left; focus (intro w hSw; (try dsimp only at hSw); first | (go_simp; done) | (go_simp; with_reducible rfl))
                  try simp only [Act.put]
                  try simp only [List.setIfInBounds_toArray]
                  try simp only [List.set_cons_succ, List.set_cons_zero]
                  refine wpAnyH_take (i := 20) (oi := ⟨some 70, _, _, _, _, _⟩) (v := ?_) rfl (by kernel_rfl) (by kernel_rfl) (by kernel_rfl) (fun _ _ _ h => h) (Or.inl ⟨by rfl, ?_⟩) (by assumption) ?_; rotate_left; focus (intro w hSw; (try dsimp only at hSw); first | (go_simp; done) | (go_simp; with_reducible rfl))
                  try simp only [Act.put]
                  try simp only [List.setIfInBounds_toArray]
                  try simp only [List.set_cons_succ, List.set_cons_zero]
                  refine wpAnyH_take (i := 21) (oi := ⟨some 71, _, _, _, _, _⟩) (v := ?_) rfl (by kernel_rfl) (by kernel_rfl) (by kernel_rfl) (fun _ _ _ h => h) (Or.inl ⟨by rfl, ?_⟩) (by assumption) ?_; rotate_left; focus (intro w hSw; (try dsimp only at hSw); first | (go_simp; done) | (go_simp; with_reducible rfl))
                  try simp only [Act.put]
                  try simp only [List.setIfInBounds_toArray]
                  try simp only [List.set_cons_succ, List.set_cons_zero]
                  refine wpAnyH_take (i := 22) (oi := ⟨some 72, _, _, _, _, _⟩) (v := ?_) rfl (by kernel_rfl) (by kernel_rfl) (by kernel_rfl) (fun _ _ _ h => h) (Or.inl ⟨by rfl, ?_⟩) (by assumption) ?_; rotate_left; focus (intro w hSw; (try dsimp only at hSw); first | (go_simp; done) | (go_simp; with_reducible rfl))
                  try simp only [Act.put]
                  try simp only [List.setIfInBounds_toArray]
                  try simp only [List.set_cons_succ, List.set_cons_zero]
                  refine wpAnyH_take (i := 23) (oi := ⟨some 73, _, _, _, _, _⟩) (v := ?_) rfl (by kernel_rfl) (by kernel_rfl) (by kernel_rfl) (fun _ _ _ h => h) (Or.inl ⟨by rfl, ?_⟩) (by assumption) ?_; rotate_left; focus (intro w hSw; (try dsimp only at hSw); first | (go_simp; done) | (go_simp; with_reducible rfl))
                  try simp only [Act.put]
                  try simp only [List.setIfInBounds_toArray]
                  try simp only [List.set_cons_succ, List.set_cons_zero]
                  refine wpAnyH_take (i := 24) (oi := ⟨some 74, _, _, _, _, _⟩) (v := ?_) rfl (by kernel_rfl) (by kernel_rfl) (by kernel_rfl) (fun _ _ _ h => h) (Or.inl ⟨by rfl, ?_⟩) (by assumption) ?_; rotate_left; focus (intro w hSw; (try dsimp only at hSw); first | (go_simp; done) | (go_simp; with_reducible rfl))
                  try simp only [Act.put]
                  try simp only [List.setIfInBounds_toArray]
                  try simp only [List.set_cons_succ, List.set_cons_zero]
                  refine wpAnyH_take (i := 25) (oi := ⟨some 75, _, _, _, _, _⟩) (v := ?_) rfl (by kernel_rfl) (by kernel_rfl) (by kernel_rfl) (fun _ _ _ h => h) (Or.inl ⟨by rfl, ?_⟩) (by assumption) ?_; rotate_left; focus (intro w hSw; (try dsimp only at hSw); first | (go_simp; done) | (go_simp; with_reducible rfl))
                  try simp only [Act.put]
                  try simp only [List.setIfInBounds_toArray]
                  try simp only [List.set_cons_succ, List.set_cons_zero]
                  refine wpAnyH_take (i := 26) (oi := ⟨some 76, _, _, _, _, _⟩) (v := ?_) rfl (by kernel_rfl) (by kernel_rfl) (by kernel_rfl) (fun _ _ _ h => h) (Or.inl ⟨by rfl, ?_⟩) (by assumption) ?_; rotate_left; focus (intro w hSw; (try dsimp only at hSw); first | (go_simp; done) | (go_simp; with_reducible rfl))
                  try simp only [Act.put]
                  try simp only [List.setIfInBounds_toArray]
                  try simp only [List.set_cons_succ, List.set_cons_zero]
                  refine wpAnyH_take (i := 27) (oi := ⟨some 77, _, _, _, _, _⟩) (v := ?_) rfl (by kernel_rfl) (by kernel_rfl) (by kernel_rfl) (fun _ _ _ h => h) (Or.inl ⟨by rfl, ?_⟩) (by assumption) ?_; rotate_left; focus (intro w hSw; (try dsimp only at hSw); first | (go_simp; done) | (go_simp; with_reducible rfl))
                  try simp only [Act.put]
                  try simp only [List.setIfInBounds_toArray]
                  try simp only [List.set_cons_succ, List.set_cons_zero]
                  refine wpAnyH_take (i := 28) (oi := ⟨some 78, _, _, _, _, _⟩) (v := ?_) rfl (by kernel_rfl) (by kernel_rfl) (by kernel_rfl) (fun _ _ _ h => h) (Or.inl ⟨by rfl, ?_⟩) (by assumption) ?_; rotate_left; focus (intro w hSw; (try dsimp only at hSw); first | (go_simp; done) | (go_simp; with_reducible rfl))
                  try simp only [Act.put]
                  try simp only [List.setIfInBounds_toArray]
                  try simp only [List.set_cons_succ, List.set_cons_zero]
                  refine wpAnyH_take (i := 29) (oi := ⟨some 79, _, _, _, _, _⟩) (v := ?_) rfl (by kernel_rfl) (by kernel_rfl) (by kernel_rfl) (fun _ _ _ h => h) (Or.inl ⟨by rfl, ?_⟩) (by assumption) ?_; rotate_left; focus (intro w hSw; (try dsimp only at hSw); first | (go_simp; done) | (go_simp; with_reducible rfl))
                  try simp only [Act.put]
                  try simp only [List.setIfInBounds_toArray]
                  try simp only [List.set_cons_succ, List.set_cons_zero]
                  refine wpAnyH_take (i := 30) (oi := ⟨some 80, _, _, _, _, _⟩) (v := ?_) rfl (by kernel_rfl) (by kernel_rfl) (by kernel_rfl) (fun _ _ _ h => h) (Or.inl ⟨by rfl, ?_⟩) (by assumption) ?_; rotate_left; focus (intro w hSw; (try dsimp only at hSw); first | (go_simp; done) | (go_simp; with_reducible rfl))
                  try simp only [Act.put]
                  try simp only [List.setIfInBounds_toArray]
                  try simp only [List.set_cons_succ, List.set_cons_zero]
                  refine wpAnyH_take (i := 31) (oi := ⟨some 81, _, _, _, _, _⟩) (v := ?_) rfl (by kernel_rfl) (by kernel_rfl) (by kernel_rfl) (fun _ _ _ h => h) (Or.inl ⟨by rfl, ?_⟩) (by assumption) ?_; rotate_left; focus (intro w hSw; (try dsimp only at hSw); first | (go_simp; done) | (go_simp; with_reducible rfl))
                  try simp only [Act.put]
                  try simp only [List.setIfInBounds_toArray]
                  try simp only [List.set_cons_succ, List.set_cons_zero]
                  refine wpAnyH_take (i := 32) (oi := ⟨some 82, _, _, _, _, _⟩) (v := ?_) rfl (by kernel_rfl) (by kernel_rfl) (by kernel_rfl) (fun _ _ _ h => h) (Or.inl ⟨by rfl, ?_⟩) (by assumption) ?_; rotate_left; focus (intro w hSw; (try dsimp only at hSw); first | (go_simp; done) | (go_simp; with_reducible rfl))
                  try simp only [Act.put]
                  try simp only [List.setIfInBounds_toArray]
                  try simp only [List.set_cons_succ, List.set_cons_zero]
                  refine wpAnyH_take (i := 33) (oi := ⟨some 83, _, _, _, _, _⟩) (v := ?_) rfl (by kernel_rfl) (by kernel_rfl) (by kernel_rfl) (fun _ _ _ h => h) (Or.inl ⟨by rfl, ?_⟩) (by assumption) ?_; rotate_left; focus (intro w hSw; (try dsimp only at hSw); first | (go_simp; done) | (go_simp; with_reducible rfl))
                  try simp only [Act.put]
                  try simp only [List.setIfInBounds_toArray]
                  try simp only [List.set_cons_succ, List.set_cons_zero]
                  refine wpAnyH_take (i := 34) (oi := ⟨some 84, _, _, _, _, _⟩) (v := ?_) rfl (by kernel_rfl) (by kernel_rfl) (by kernel_rfl) (fun _ _ _ h => h) (Or.inl ⟨by rfl, ?_⟩) (by assumption) ?_; rotate_left; focus (intro w hSw; (try dsimp only at hSw); first | (go_simp; done) | (go_simp; with_reducible rfl))
                  try simp only [Act.put]
                  try simp only [List.setIfInBounds_toArray]
                  try simp only [List.set_cons_succ, List.set_cons_zero]
                  refine wpAnyH_take (i := 35) (oi := ⟨some 85, _, _, _, _, _⟩) (v := ?_) rfl (by kernel_rfl) (by kernel_rfl) (by kernel_rfl) (fun _ _ _ h => h) (Or.inl ⟨by rfl, ?_⟩) (by assumption) ?_; rotate_left; focus (intro w hSw; (try dsimp only at hSw); first | (go_simp; done) | (go_simp; with_reducible rfl))
                  try simp only [Act.put]
                  try simp only [List.setIfInBounds_toArray]
                  try simp only [List.set_cons_succ, List.set_cons_zero]
                  refine wpAnyH_take (i := 36) (oi := ⟨some 86, _, _, _, _, _⟩) (v := ?_) rfl (by kernel_rfl) (by kernel_rfl) (by kernel_rfl) (fun _ _ _ h => h) (Or.inl ⟨by rfl, ?_⟩) (by assumption) ?_; rotate_left; focus (intro w hSw; (try dsimp only at hSw); first | (go_simp; done) | (go_simp; with_reducible rfl))
                  try simp only [Act.put]
                  try simp only [List.setIfInBounds_toArray]
                  try simp only [List.set_cons_succ, List.set_cons_zero]
                  refine wpAnyH_take (i := 37) (oi := ⟨some 87, _, _, _, _, _⟩) (v := ?_) rfl (by kernel_rfl) (by kernel_rfl) (by kernel_rfl) (fun _ _ _ h => h) (Or.inl ⟨by rfl, ?_⟩) (by assumption) ?_; rotate_left; focus (intro w hSw; (try dsimp only at hSw); first | (go_simp; done) | (go_simp; with_reducible rfl))
                  try simp only [Act.put]
                  try simp only [List.setIfInBounds_toArray]
                  try simp only [List.set_cons_succ, List.set_cons_zero]
                  refine wpAnyH_take (i := 38) (oi := ⟨some 88, _, _, _, _, _⟩) (v := ?_) rfl (by kernel_rfl) (by kernel_rfl) (by kernel_rfl) (fun _ _ _ h => h) (Or.inl ⟨by rfl, ?_⟩) (by assumption) ?_; rotate_left; focus (intro w hSw; (try dsimp only at hSw); first | (go_simp; done) | (go_simp; with_reducible rfl))
                  try simp only [Act.put]
                  try simp only [List.setIfInBounds_toArray]
                  try simp only [List.set_cons_succ, List.set_cons_zero]
                  refine wpAnyH_take (i := 39) (oi := ⟨some 89, _, _, _, _, _⟩) (v := ?_) rfl (by kernel_rfl) (by kernel_rfl) (by kernel_rfl) (fun _ _ _ h => h) (Or.inl ⟨by rfl, ?_⟩) (by assumption) ?_; rotate_left; focus (intro w hSw; (try dsimp only at hSw); first | (go_simp; done) | (go_simp; with_reducible rfl))
                  try simp only [Act.put]
                  try simp only [List.setIfInBounds_toArray]
                  try simp only [List.set_cons_succ, List.set_cons_zero]
                  refine wpAnyH_take (i := 40) (oi := ⟨some 90, _, _, _, _, _⟩) (v := ?_) rfl (by kernel_rfl) (by kernel_rfl) (by kernel_rfl) (fun _ _ _ h => h) (Or.inl ⟨by rfl, ?_⟩) (by assumption) ?_; rotate_left; focus (intro w hSw; (try dsimp only at hSw); first | (go_simp; done) | (go_simp; with_reducible rfl))
                  try simp only [Act.put]
                  try simp only [List.setIfInBounds_toArray]
                  try simp only [List.set_cons_succ, List.set_cons_zero]
                  refine wpAnyH_take (i := 41) (oi := ⟨some 91, _, _, _, _, _⟩) (v := ?_) rfl (by kernel_rfl) (by kernel_rfl) (by kernel_rfl) (fun _ _ _ h => h) (Or.inl ⟨by rfl, ?_⟩) (by assumption) ?_; rotate_left; focus (intro w hSw; (try dsimp only at hSw); first | (go_simp; done) | (go_simp; with_reducible rfl))
                  try simp only [Act.put]
                  try simp only [List.setIfInBounds_toArray]
                  try simp only [List.set_cons_succ, List.set_cons_zero]
                  refine wpAnyH_take (i := 43) (oi := ⟨some 93, _, _, _, _, _⟩) (v := ?_) rfl (by kernel_rfl) (by kernel_rfl) (by kernel_rfl) (fun _ _ _ h => h) (Or.inl ⟨by rfl, ?_⟩) (by assumption) ?_; rotate_left; focus (intro w hSw; (try dsimp only at hSw); first | (go_simp; done) | (go_simp; with_reducible rfl))
                  try simp only [Act.put]
                  try simp only [List.setIfInBounds_toArray]
                  try simp only [List.set_cons_succ, List.set_cons_zero]
                  refine wpAnyH_take (i := 44) (oi := ⟨some 94, _, _, _, _, _⟩) (v := ?_) rfl (by kernel_rfl) (by kernel_rfl) (by kernel_rfl) (fun _ _ _ h => h) (Or.inl ⟨by rfl, ?_⟩) (by assumption) ?_; rotate_left; focus (intro w hSw; (try dsimp only at hSw); first | (go_simp; done) | (go_simp; with_reducible rfl))
                  try simp only [Act.put]
                  try simp only [List.setIfInBounds_toArray]
                  try simp only [List.set_cons_succ, List.set_cons_zero]
                  refine wpAnyH_take (i := 45) (oi := ⟨some 95, _, _, _, _, _⟩) (v := ?_) rfl (by kernel_rfl) (by kernel_rfl) (by kernel_rfl) (fun _ _ _ h => h) (Or.inl ⟨by rfl, ?_⟩) (by assumption) ?_; rotate_left; focus (intro w hSw; (try dsimp only at hSw); first | (go_simp; done) | (go_simp; with_reducible rfl))
                  try simp only [Act.put]
                  try simp only [List.setIfInBounds_toArray]
                  try simp only [List.set_cons_succ, List.set_cons_zero]
                  refine wpAnyH_take (i := 46) (oi := ⟨some 96, _, _, _, _, _⟩) (v := ?_) rfl (by kernel_rfl) (by kernel_rfl) (by kernel_rfl) (fun _ _ _ h => h) (Or.inl ⟨by rfl, ?_⟩) (by assumption) ?_; rotate_left; focus (intro w hSw; (try dsimp only at hSw); first | (go_simp; done) | (go_simp; with_reducible rfl))
                  try simp only [Act.put]
                  try simp only [List.setIfInBounds_toArray]
                  try simp only [List.set_cons_succ, List.set_cons_zero]
                  refine wpAnyH_take (i := 47) (oi := ⟨some 97, _, _, _, _, _⟩) (v := ?_) rfl (by kernel_rfl) (by kernel_rfl) (by kernel_rfl) (fun _ _ _ h => h) (Or.inl ⟨by rfl, ?_⟩) (by assumption) ?_; rotate_left; focus (intro w hSw; (try dsimp only at hSw); first | (go_simp; done) | (go_simp; with_reducible rfl))
                  try simp only [Act.put]
                  try simp only [List.setIfInBounds_toArray]
                  try simp only [List.set_cons_succ, List.set_cons_zero]
                  refine wpAnyH_take (i := 48) (oi := ⟨some 98, _, _, _, _, _⟩) (v := ?_) rfl (by kernel_rfl) (by kernel_rfl) (by kernel_rfl) (fun _ _ _ h => h) (Or.inl ⟨by rfl, ?_⟩) (by assumption) ?_; rotate_left; focus (intro w hSw; (try dsimp only at hSw); first | (go_simp; done) | (go_simp; with_reducible rfl))
                  try simp only [Act.put]
                  try simp only [List.setIfInBounds_toArray]
                  try simp only [List.set_cons_succ, List.set_cons_zero]
                  refine wpAnyH_take (i := 49) (oi := ⟨some 99, _, _, _, _, _⟩) (v := ?_) rfl (by kernel_rfl) (by kernel_rfl) (by kernel_rfl) (fun _ _ _ h => h) (Or.inl ⟨by rfl, ?_⟩) (by assumption) ?_; rotate_left; focus (intro w hSw; (try dsimp only at hSw); first | (go_simp; done) | (go_simp; with_reducible rfl))
                  try simp only [Act.put]
                  try simp only [List.setIfInBounds_toArray]
                  try simp only [List.set_cons_succ, List.set_cons_zero]
                  refine wpAnyH_ready (rs := [42]) (by kernel_rfl) (by simp) ?_
                  refine AllReadyH.cons (i := 42) (o := ⟨some 92, _, _, _, _, _⟩) rfl (fun K hK => ?_) ?_
                  · go_simp
                    refine (H14c.out _ (by first | exact hcur.out | exact hcur.out.drew)).mono ?_
                    rintro e w6 ⟨_, rfl, hb6, a6, c6, rfl, hn6⟩
                    have hcur := Lib.hid ((by first | exact hcur.out.trans (hb6.mono hcur.out.size) | exact hcur.out.drew.trans (hb6.mono hcur.out.size) | exact hcur.out.drew.drew.trans (hb6.mono hcur.out.size)) : Below w3.heap.size w3 w6)
                    have H13 : Hid (∀ W, Below w6.heap.size w6 W → Calls Try.prog 13 #[.slice a6 l.length c6, .string ⟨x.toArray⟩] W (Ret W fun v w' => IsB (∃ y ∈ G l x, Rch (G l) y x) v w')) := Lib.hid fun W hb => round_any a6 c6 l x W (hn6.ext hb) HL.out Hxl.out
                    clear hn6
                    refine hK.out _ _ ?_ (fun hHeld => ?_)
                    · exact ⟨below_ext hb6 hHeld.1, below_ext hb6 hHeld.2.1, below_ext hb6 hHeld.2.2⟩
                    try simp only [Act.put]
                    try simp only [List.setIfInBounds_toArray]
                    try simp only [List.set_cons_succ, List.set_cons_zero]
                    refine wpAnyH_ready (rs := [50]) (by kernel_rfl) (by simp) ?_
                    refine AllReadyH.cons (i := 50) (o := ⟨some 100, _, _, _, _, _⟩) rfl (fun K hK => ?_) ?_
                    · go_simp
                      refine (H13.out _ (by first | exact Below.refl _ _ | exact (Below.refl _ _).drew)).mono ?_
                      rintro e w7 ⟨_, rfl, hb7, b7, rfl, hb7i⟩
                      obtain rfl : b7 = true := hb7i.2 (Hgrp.out.round h1 Hxm.out)
                      clear hb7i
                      have hcur := Lib.hid ((by first | exact hcur.out.trans (hb7.mono hcur.out.size) | exact hcur.out.drew.trans (hb7.mono hcur.out.size) | exact hcur.out.drew.drew.trans (hb7.mono hcur.out.size)) : Below w3.heap.size w3 w7)
                      refine hK.out _ _ ?_ (fun hHeld => ?_)
                      · exact ⟨below_ext hb7 hHeld.1, below_ext hb7 hHeld.2.1, below_ext hb7 hHeld.2.2⟩
                      try simp only [Act.put]
                      try simp only [List.setIfInBounds_toArray]
                      try simp only [List.set_cons_succ, List.set_cons_zero]
                      refine wpAnyH_take (i := 51) (oi := ⟨some 101, _, _, _, _, _⟩) (v := ?_) rfl (by kernel_rfl) (by kernel_rfl) (by kernel_rfl) (fun _ _ _ h => h) (Or.inl ⟨by rfl, ?_⟩) (by assumption) ?_; rotate_left; focus (intro w hSw; (try dsimp only at hSw); first | (go_simp; done) | (go_simp; with_reducible rfl))
                      try simp only [Act.put]
                      try simp only [List.setIfInBounds_toArray]
                      try simp only [List.set_cons_succ, List.set_cons_zero]
                      refine wpAnyH_take (i := 52) (oi := ⟨some 102, _, _, _, _, _⟩) (v := ?_) rfl (by kernel_rfl) (by kernel_rfl) (by kernel_rfl) (fun _ _ _ h => h) (Or.inl ⟨by rfl, ?_⟩) (by assumption) ?_; rotate_left; focus (intro w hSw; (try dsimp only at hSw); first | (go_simp; done) | (go_simp; with_reducible rfl))
                      try simp only [Act.put]
                      try simp only [List.setIfInBounds_toArray]
                      try simp only [List.set_cons_succ, List.set_cons_zero]
                      refine wpAnyH_take (i := 53) (oi := ⟨some 103, _, _, _, _, _⟩) (v := ?_) rfl (by kernel_rfl) (by kernel_rfl) (by kernel_rfl) (fun _ _ _ h => h) (Or.inl ⟨by rfl, ?_⟩) (by assumption) ?_; rotate_left; focus (intro w hSw; (try dsimp only at hSw); first | (go_simp; done) | (go_simp; with_reducible rfl))
                      try simp only [Act.put]
                      try simp only [List.setIfInBounds_toArray]
                      try simp only [List.set_cons_succ, List.set_cons_zero]
                      refine wpAnyH_done (by kernel_rfl) ?_ _
                      go_wp2
                      go_roundw
                      case rel => exact ⟨j + 1, by omega, by go_num, Lib.hid (by first | exact hcur.out | exact hcur.out.drew | exact hb.out | exact hb.out.drew)⟩
                      case measure => simp [intOf]; omega
                    exact AllReadyH.nil
                  exact AllReadyH.nil
                exact AllReadyH.nil
              · obtain rfl : j = 0 := by omega
                rw [Nat.add_zero] at x0
                go_wp2_with fail
                refine wp_region_held_drew (S := fun w' => w'.cell? ⟨gb, go_ + k, none⟩ = some (.slice (some ⟨xb, xo, none⟩) r.l.length r.c) ∧ w'.cell? ⟨xb, xo, none⟩ = some (.string ⟨x.toArray⟩)) (by kernel_rfl) ?_ (fun hHeld => ?_)
                · exact ⟨u2, x0⟩
                refine wpAnyH_take (i := 0) (oi := ⟨some 50, _, _, _, _, _⟩) (v := ?_) rfl (by kernel_rfl) (by kernel_rfl) (by kernel_rfl) (fun _ _ _ h => h) (Or.inl ⟨by rfl, ?_⟩) (by assumption) ?_; rotate_left; focus (intro w hSw; (try dsimp only at hSw); first | (go_simp; done) | (go_simp; with_reducible rfl))
                try simp only [Act.put]
                try simp only [List.setIfInBounds_toArray]
                try simp only [List.set_cons_succ, List.set_cons_zero]
                refine wpAnyH_take (i := 1) (oi := ⟨some 51, _, _, _, _, _⟩) (v := ?_) rfl (by kernel_rfl) (by kernel_rfl) (by kernel_rfl) (fun _ _ _ h => h) (Or.inl ⟨by rfl, ?_⟩) (by assumption) ?_; rotate_left; focus (intro w hSw; (try dsimp only at hSw); first | (go_simp; done) | (go_simp; with_reducible rfl))
                try simp only [Act.put]
                try simp only [List.setIfInBounds_toArray]
                try simp only [List.set_cons_succ, List.set_cons_zero]
                refine wpAnyH_take (i := 2) (oi := ⟨some 52, _, _, _, _, _⟩) (v := ?_) rfl (by kernel_rfl) (by kernel_rfl) (by kernel_rfl) (fun _ _ _ h => h) (Or.inl ⟨by rfl, ?_⟩) (by assumption) ?_; rotate_left; focus (intro w hSw; (try dsimp only at hSw); first | (go_simp; done) | (go_simp; with_reducible rfl))
                try simp only [Act.put]
                try simp only [List.setIfInBounds_toArray]
                try simp only [List.set_cons_succ, List.set_cons_zero]
                refine wpAnyH_take (i := 3) (oi := ⟨some 53, _, _, _, _, _⟩) (v := ?_) rfl (by kernel_rfl) (by kernel_rfl) (by kernel_rfl) (fun _ _ _ h => h) (Or.inl ⟨by rfl, ?_⟩) (by assumption) ?_; rotate_left; focus (intro w hSw; (try dsimp only at hSw); first | (go_simp; done) | (go_simp; with_reducible rfl))
                try simp only [Act.put]
                try simp only [List.setIfInBounds_toArray]
                try simp only [List.set_cons_succ, List.set_cons_zero]
                refine wpAnyH_take (i := 4) (oi := ⟨some 54, _, _, _, _, _⟩) (v := ?_) rfl (by kernel_rfl) (by kernel_rfl) (by kernel_rfl) (fun _ _ _ h => h) (Or.inl ⟨by rfl, ?_⟩) (by assumption) ?_; rotate_left; focus (intro w hSw; (try dsimp only at hSw); first | (go_simp; done) | (go_simp; with_reducible rfl))
                try simp only [Act.put]
                try simp only [List.setIfInBounds_toArray]
                try simp only [List.set_cons_succ, List.set_cons_zero]
                refine wpAnyH_take (i := 5) (oi := ⟨some 55, _, _, _, _, _⟩) (v := ?_) rfl (by kernel_rfl) (by kernel_rfl) (by kernel_rfl) (fun _ _ _ h => h) (Or.inl ⟨by rfl, ?_⟩) (by assumption) ?_; rotate_left; focus (intro w hSw; (try dsimp only at hSw); first | (go_simp; done) | (go_simp; with_reducible rfl))
                try simp only [Act.put]
                try simp only [List.setIfInBounds_toArray]
                try simp only [List.set_cons_succ, List.set_cons_zero]
                refine wpAnyH_take (i := 6) (oi := ⟨some 56, _, _, _, _, _⟩) (v := ?_) rfl (by kernel_rfl) (by kernel_rfl) (by kernel_rfl) (fun _ _ _ h => h) (Or.inl ⟨by rfl, ?_⟩) (by assumption) ?_; rotate_left; focus (intro w hSw; (try dsimp only at hSw); first | (go_simp; done) | (go_simp; with_reducible rfl))
                try simp only [Act.put]
                try simp only [List.setIfInBounds_toArray]
                try simp only [List.set_cons_succ, List.set_cons_zero]
                refine wpAnyH_take (i := 7) (oi := ⟨some 57, _, _, _, _, _⟩) (v := ?_) rfl (by kernel_rfl) (by kernel_rfl) (by kernel_rfl) (fun _ _ _ h => h) (Or.inl ⟨by rfl, ?_⟩) (by assumption) ?_; rotate_left; focus (intro w hSw; (try dsimp only at hSw); first | (go_simp; done) | (go_simp; with_reducible rfl))
                try simp only [Act.put]
                try simp only [List.setIfInBounds_toArray]
                try simp only [List.set_cons_succ, List.set_cons_zero]
                refine wpAnyH_take (i := 9) (oi := ⟨some 59, _, _, _, _, _⟩) (v := ?_) rfl (by kernel_rfl) (by kernel_rfl) (by kernel_rfl) (fun _ _ _ h => h) (Or.inl ⟨by rfl, ?_⟩) (by assumption) ?_; rotate_left; focus (intro w hSw; (try dsimp only at hSw); first | (go_simp; done) | (go_simp; with_reducible rfl))
                try simp only [Act.put]
                try simp only [List.setIfInBounds_toArray]
                try simp only [List.set_cons_succ, List.set_cons_zero]
                refine wpAnyH_ready (rs := [8]) (by kernel_rfl) (by simp) ?_
                refine AllReadyH.cons (i := 8) (o := ⟨some 58, _, _, _, _, _⟩) rfl (fun K hK => ?_) ?_
                · go_simp
                  refine (HP.out x _ (by first | exact hb.out | exact hb.out.drew)).mono ?_
                  rintro e w5 ⟨rfl, rfl⟩
                  rw [Hpl.out]
                  refine hK.out _ _ ?_ (fun hHeld => ?_)
                  · exact hHeld
                  try simp only [Act.put]
                  try simp only [List.setIfInBounds_toArray]
                  try simp only [List.set_cons_succ, List.set_cons_zero]
                  refine wpAnyH_take (i := 10) (oi := ⟨some 60, _, _, _, _, _⟩) (v := ?_) rfl (by kernel_rfl) (by kernel_rfl) (by kernel_rfl) (fun _ _ _ h => h) (Or.inl ⟨by rfl, ?_⟩) (by assumption) ?_; rotate_left; focus (intro w hSw; (try dsimp only at hSw); first | (go_simp; done) | (go_simp; with_reducible rfl))
                  try simp only [Act.put]
                  try simp only [List.setIfInBounds_toArray]
                  try simp only [List.set_cons_succ, List.set_cons_zero]
                  refine wpAnyH_take (i := 11) (oi := ⟨some 61, _, _, _, _, _⟩) (v := ?_) rfl (by kernel_rfl) (by kernel_rfl) (by kernel_rfl) (fun _ _ _ h => h) (Or.inl ⟨by rfl, ?_⟩) (by assumption) ?_; rotate_left; focus (intro w hSw; (try dsimp only at hSw); first | (go_simp; done) | (go_simp; with_reducible rfl))
                  try simp only [Act.put]
                  try simp only [List.setIfInBounds_toArray]
                  try simp only [List.set_cons_succ, List.set_cons_zero]
                  refine wpAnyH_take (i := 12) (oi := ⟨some 62, _, _, _, _, _⟩) (v := ?_) rfl (by kernel_rfl) (by kernel_rfl) (by kernel_rfl) (fun _ _ _ h => h) (Or.inl ⟨by rfl, ?_⟩) (by assumption) ?_; rotate_left; focus (intro w hSw; (try dsimp only at hSw); first | (go_simp; done) | (go_simp; with_reducible rfl))
                  try simp only [Act.put]
                  try simp only [List.setIfInBounds_toArray]
                  try simp only [List.set_cons_succ, List.set_cons_zero]
                  refine wpAnyH_take (i := 13) (oi := ⟨some 63, _, _, _, _, _⟩) (v := ?_) rfl (by kernel_rfl) (by kernel_rfl) (by kernel_rfl) (fun _ _ _ h => h) (Or.inl ⟨by rfl, ?_⟩) (by assumption) ?_; rotate_left; focus (intro w hSw; (try dsimp only at hSw); first | (go_simp; done) | (go_simp; with_reducible rfl))
                  try simp only [Act.put]
                  try simp only [List.setIfInBounds_toArray]
                  try simp only [List.set_cons_succ, List.set_cons_zero]
                  refine wpAnyH_take (i := 14) (oi := ⟨some 64, _, _, _, _, _⟩) (v := ?_) rfl (by kernel_rfl) (by kernel_rfl) (by kernel_rfl) (fun _ _ _ h => h) (Or.inl ⟨by rfl, ?_⟩) (by assumption) ?_; rotate_left; focus (intro w hSw; (try dsimp only at hSw); first | (go_simp; done) | (go_simp; with_reducible rfl))
                  try simp only [Act.put]
                  try simp only [List.setIfInBounds_toArray]
                  try simp only [List.set_cons_succ, List.set_cons_zero]
                  refine wpAnyH_take (i := 15) (oi := ⟨some 65, _, _, _, _, _⟩) (v := undef) rfl (by kernel_rfl) (by kernel_rfl) (by kernel_rfl) (fun _ _ _ h => h) (Or.inr ⟨by rfl, rfl⟩) (by assumption) ?_
                  try simp only [Act.put]
                  try simp only [List.setIfInBounds_toArray]
                  try simp only [List.set_cons_succ, List.set_cons_zero]
                  refine wpAnyH_take (i := 16) (oi := ⟨some 66, _, _, _, _, _⟩) (v := undef) rfl (by kernel_rfl) (by kernel_rfl) (by kernel_rfl) (fun _ _ _ h => h) (Or.inr ⟨by rfl, rfl⟩) (by assumption) ?_
                  try simp only [Act.put]
                  try simp only [List.setIfInBounds_toArray]
                  try simp only [List.set_cons_succ, List.set_cons_zero]
                  refine wpAnyH_take (i := 17) (oi := ⟨some 67, _, _, _, _, _⟩) (v := undef) rfl (by kernel_rfl) (by kernel_rfl) (by kernel_rfl) (fun _ _ _ h => h) (Or.inr ⟨by rfl, rfl⟩) (by assumption) ?_
                  try simp only [Act.put]
                  try simp only [List.setIfInBounds_toArray]
                  try simp only [List.set_cons_succ, List.set_cons_zero]
                  refine wpAnyH_take (i := 18) (oi := ⟨some 68, _, _, _, _, _⟩) (v := undef) rfl (by kernel_rfl) (by kernel_rfl) (by kernel_rfl) (fun _ _ _ h => h) (Or.inr ⟨by rfl, rfl⟩) (by assumption) ?_
                  try simp only [Act.put]
                  try simp only [List.setIfInBounds_toArray]
                  try simp only [List.set_cons_succ, List.set_cons_zero]
                  refine wpAnyH_take (i := 19) (oi := ⟨some 69, _, _, _, _, _⟩) (v := undef) rfl (by kernel_rfl) (by kernel_rfl) (by kernel_rfl) (fun _ _ _ h => h) (Or.inr ⟨by rfl, rfl⟩) (by assumption) ?_
                  try simp only [Act.put]
                  try simp only [List.setIfInBounds_toArray]
                  try simp only [List.set_cons_succ, List.set_cons_zero]
                  refine wpAnyH_take (i := 20) (oi := ⟨some 70, _, _, _, _, _⟩) (v := undef) rfl (by kernel_rfl) (by kernel_rfl) (by kernel_rfl) (fun _ _ _ h => h) (Or.inr ⟨by rfl, rfl⟩) (by assumption) ?_
                  try simp only [Act.put]
                  try simp only [List.setIfInBounds_toArray]
                  try simp only [List.set_cons_succ, List.set_cons_zero]
                  refine wpAnyH_take (i := 21) (oi := ⟨some 71, _, _, _, _, _⟩) (v := undef) rfl (by kernel_rfl) (by kernel_rfl) (by kernel_rfl) (fun _ _ _ h => h) (Or.inr ⟨by rfl, rfl⟩) (by assumption) ?_
                  try simp only [Act.put]
                  try simp only [List.setIfInBounds_toArray]
                  try simp only [List.set_cons_succ, List.set_cons_zero]
                  refine wpAnyH_take (i := 22) (oi := ⟨some 72, _, _, _, _, _⟩) (v := undef) rfl (by kernel_rfl) (by kernel_rfl) (by kernel_rfl) (fun _ _ _ h => h) (Or.inr ⟨by rfl, rfl⟩) (by assumption) ?_
                  try simp only [Act.put]
                  try simp only [List.setIfInBounds_toArray]
                  try simp only [List.set_cons_succ, List.set_cons_zero]
                  refine wpAnyH_take (i := 23) (oi := ⟨some 73, _, _, _, _, _⟩) (v := undef) rfl (by kernel_rfl) (by kernel_rfl) (by kernel_rfl) (fun _ _ _ h => h) (Or.inr ⟨by rfl, rfl⟩) (by assumption) ?_
                  try simp only [Act.put]
                  try simp only [List.setIfInBounds_toArray]
                  try simp only [List.set_cons_succ, List.set_cons_zero]
                  refine wpAnyH_take (i := 24) (oi := ⟨some 74, _, _, _, _, _⟩) (v := undef) rfl (by kernel_rfl) (by kernel_rfl) (by kernel_rfl) (fun _ _ _ h => h) (Or.inr ⟨by rfl, rfl⟩) (by assumption) ?_
                  try simp only [Act.put]
                  try simp only [List.setIfInBounds_toArray]
                  try simp only [List.set_cons_succ, List.set_cons_zero]
                  refine wpAnyH_take (i := 25) (oi := ⟨some 75, _, _, _, _, _⟩) (v := undef) rfl (by kernel_rfl) (by kernel_rfl) (by kernel_rfl) (fun _ _ _ h => h) (Or.inr ⟨by rfl, rfl⟩) (by assumption) ?_
                  try simp only [Act.put]
                  try simp only [List.setIfInBounds_toArray]
                  try simp only [List.set_cons_succ, List.set_cons_zero]
                  refine wpAnyH_take (i := 26) (oi := ⟨some 76, _, _, _, _, _⟩) (v := undef) rfl (by kernel_rfl) (by kernel_rfl) (by kernel_rfl) (fun _ _ _ h => h) (Or.inr ⟨by rfl, rfl⟩) (by assumption) ?_
                  try simp only [Act.put]
                  try simp only [List.setIfInBounds_toArray]
                  try simp only [List.set_cons_succ, List.set_cons_zero]
                  refine wpAnyH_take (i := 27) (oi := ⟨some 77, _, _, _, _, _⟩) (v := undef) rfl (by kernel_rfl) (by kernel_rfl) (by kernel_rfl) (fun _ _ _ h => h) (Or.inr ⟨by rfl, rfl⟩) (by assumption) ?_
                  try simp only [Act.put]
                  try simp only [List.setIfInBounds_toArray]
                  try simp only [List.set_cons_succ, List.set_cons_zero]
                  refine wpAnyH_take (i := 28) (oi := ⟨some 78, _, _, _, _, _⟩) (v := undef) rfl (by kernel_rfl) (by kernel_rfl) (by kernel_rfl) (fun _ _ _ h => h) (Or.inr ⟨by rfl, rfl⟩) (by assumption) ?_
                  try simp only [Act.put]
                  try simp only [List.setIfInBounds_toArray]
                  try simp only [List.set_cons_succ, List.set_cons_zero]
                  refine wpAnyH_take (i := 29) (oi := ⟨some 79, _, _, _, _, _⟩) (v := undef) rfl (by kernel_rfl) (by kernel_rfl) (by kernel_rfl) (fun _ _ _ h => h) (Or.inr ⟨by rfl, rfl⟩) (by assumption) ?_
                  try simp only [Act.put]
                  try simp only [List.setIfInBounds_toArray]
                  try simp only [List.set_cons_succ, List.set_cons_zero]
                  refine wpAnyH_take (i := 30) (oi := ⟨some 80, _, _, _, _, _⟩) (v := undef) rfl (by kernel_rfl) (by kernel_rfl) (by kernel_rfl) (fun _ _ _ h => h) (Or.inr ⟨by rfl, rfl⟩) (by assumption) ?_
                  try simp only [Act.put]
                  try simp only [List.setIfInBounds_toArray]
                  try simp only [List.set_cons_succ, List.set_cons_zero]
                  refine wpAnyH_take (i := 31) (oi := ⟨some 81, _, _, _, _, _⟩) (v := ?_) rfl (by kernel_rfl) (by kernel_rfl) (by kernel_rfl) (fun _ _ _ h => h) (Or.inl ⟨by rfl, ?_⟩) (by assumption) ?_; rotate_left; focus (intro w hSw; (try dsimp only at hSw); first | (go_simp; done) | (go_simp; with_reducible rfl))
                  try simp only [Act.put]
                  try simp only [List.setIfInBounds_toArray]
                  try simp only [List.set_cons_succ, List.set_cons_zero]
                  refine wpAnyH_take (i := 32) (oi := ⟨some 82, _, _, _, _, _⟩) (v := ?_) rfl (by kernel_rfl) (by kernel_rfl) (by kernel_rfl) (fun _ _ _ h => h) (Or.inl ⟨by rfl, ?_⟩) (by assumption) ?_; rotate_left; focus (intro w hSw; (try dsimp only at hSw); first | (go_simp; done) | (go_simp; with_reducible rfl))
                  try simp only [Act.put]
                  try simp only [List.setIfInBounds_toArray]
                  try simp only [List.set_cons_succ, List.set_cons_zero]
                  refine wpAnyH_take (i := 33) (oi := ⟨some 83, _, _, _, _, _⟩) (v := ?_) rfl (by kernel_rfl) (by kernel_rfl) (by kernel_rfl) (fun _ _ _ h => h) (Or.inl ⟨by rfl, ?_⟩) (by assumption) ?_; rotate_left; focus (intro w hSw; (try dsimp only at hSw); first | (go_simp; done) | (go_simp; with_reducible rfl))
                  try simp only [Act.put]
                  try simp only [List.setIfInBounds_toArray]
                  try simp only [List.set_cons_succ, List.set_cons_zero]
                  refine wpAnyH_take (i := 34) (oi := ⟨some 84, _, _, _, _, _⟩) (v := ?_) rfl (by kernel_rfl) (by kernel_rfl) (by kernel_rfl) (fun _ _ _ h => h) (Or.inl ⟨by rfl, ?_⟩) (by assumption) ?_; rotate_left; focus (intro w hSw; (try dsimp only at hSw); first | (go_simp; done) | (go_simp; with_reducible rfl))
                  try simp only [Act.put]
                  try simp only [List.setIfInBounds_toArray]
                  try simp only [List.set_cons_succ, List.set_cons_zero]
                  refine wpAnyH_take (i := 35) (oi := ⟨some 85, _, _, _, _, _⟩) (v := ?_) rfl (by kernel_rfl) (by kernel_rfl) (by kernel_rfl) (fun _ _ _ h => h) (Or.inl ⟨by rfl, ?_⟩) (by assumption) ?_; rotate_left; focus (intro w hSw; (try dsimp only at hSw); first | (go_simp; done) | (go_simp; with_reducible rfl))
                  try simp only [Act.put]
                  try simp only [List.setIfInBounds_toArray]
                  try simp only [List.set_cons_succ, List.set_cons_zero]
                  refine wpAnyH_take (i := 36) (oi := ⟨some 86, _, _, _, _, _⟩) (v := ?_) rfl (by kernel_rfl) (by kernel_rfl) (by kernel_rfl) (fun _ _ _ h => h) (Or.inl ⟨by rfl, ?_⟩) (by assumption) ?_; rotate_left; focus (intro w hSw; (try dsimp only at hSw); first | (go_simp; done) | (go_simp; with_reducible rfl))
                  try simp only [Act.put]
                  try simp only [List.setIfInBounds_toArray]
                  try simp only [List.set_cons_succ, List.set_cons_zero]
                  refine wpAnyH_take (i := 37) (oi := ⟨some 87, _, _, _, _, _⟩) (v := ?_) rfl (by kernel_rfl) (by kernel_rfl) (by kernel_rfl) (fun _ _ _ h => h) (Or.inl ⟨by rfl, ?_⟩) (by assumption) ?_; rotate_left; focus (intro w hSw; (try dsimp only at hSw); first | (go_simp; done) | (go_simp; with_reducible rfl))
                  try simp only [Act.put]
                  try simp only [List.setIfInBounds_toArray]
                  try simp only [List.set_cons_succ, List.set_cons_zero]
                  refine wpAnyH_take (i := 38) (oi := ⟨some 88, _, _, _, _, _⟩) (v := ?_) rfl (by kernel_rfl) (by kernel_rfl) (by kernel_rfl) (fun _ _ _ h => h) (Or.inl ⟨by rfl, ?_⟩) (by assumption) ?_; rotate_left; focus (intro w hSw; (try dsimp only at hSw); first | (go_simp; done) | (go_simp; with_reducible rfl))
                  try simp only [Act.put]
                  try simp only [List.setIfInBounds_toArray]
                  try simp only [List.set_cons_succ, List.set_cons_zero]
                  refine wpAnyH_take (i := 39) (oi := ⟨some 89, _, _, _, _, _⟩) (v := ?_) rfl (by kernel_rfl) (by kernel_rfl) (by kernel_rfl) (fun _ _ _ h => h) (Or.inl ⟨by rfl, ?_⟩) (by assumption) ?_; rotate_left; focus (intro w hSw; (try dsimp only at hSw); first | (go_simp; done) | (go_simp; with_reducible rfl))
                  try simp only [Act.put]
                  try simp only [List.setIfInBounds_toArray]
                  try simp only [List.set_cons_succ, List.set_cons_zero]
                  refine wpAnyH_take (i := 40) (oi := ⟨some 90, _, _, _, _, _⟩) (v := ?_) rfl (by kernel_rfl) (by kernel_rfl) (by kernel_rfl) (fun _ _ _ h => h) (Or.inl ⟨by rfl, ?_⟩) (by assumption) ?_; rotate_left; focus (intro w hSw; (try dsimp only at hSw); first | (go_simp; done) | (go_simp; with_reducible rfl))
                  try simp only [Act.put]
                  try simp only [List.setIfInBounds_toArray]
                  try simp only [List.set_cons_succ, List.set_cons_zero]
                  refine wpAnyH_take (i := 41) (oi := ⟨some 91, _, _, _, _, _⟩) (v := ?_) rfl (by kernel_rfl) (by kernel_rfl) (by kernel_rfl) (fun _ _ _ h => h) (Or.inl ⟨by rfl, ?_⟩) (by assumption) ?_; rotate_left; focus (intro w hSw; (try dsimp only at hSw); first | (go_simp; done) | (go_simp; with_reducible rfl))
                  try simp only [Act.put]
                  try simp only [List.setIfInBounds_toArray]
                  try simp only [List.set_cons_succ, List.set_cons_zero]
                  refine wpAnyH_take (i := 43) (oi := ⟨some 93, _, _, _, _, _⟩) (v := ?_) rfl (by kernel_rfl) (by kernel_rfl) (by kernel_rfl) (fun _ _ _ h => h) (Or.inl ⟨by rfl, ?_⟩) (by assumption) ?_; rotate_left; focus (intro w hSw; (try dsimp only at hSw); first | (go_simp; done) | (go_simp; with_reducible rfl))
                  try simp only [Act.put]
                  try simp only [List.setIfInBounds_toArray]
                  try simp only [List.set_cons_succ, List.set_cons_zero]
                  refine wpAnyH_take (i := 44) (oi := ⟨some 94, _, _, _, _, _⟩) (v := ?_) rfl (by kernel_rfl) (by kernel_rfl) (by kernel_rfl) (fun _ _ _ h => h) (Or.inl ⟨by rfl, ?_⟩) (by assumption) ?_; rotate_left; focus (intro w hSw; (try dsimp only at hSw); first | (go_simp; done) | (go_simp; with_reducible rfl))
                  try simp only [Act.put]
                  try simp only [List.setIfInBounds_toArray]
                  try simp only [List.set_cons_succ, List.set_cons_zero]
                  refine wpAnyH_take (i := 45) (oi := ⟨some 95, _, _, _, _, _⟩) (v := ?_) rfl (by kernel_rfl) (by kernel_rfl) (by kernel_rfl) (fun _ _ _ h => h) (Or.inl ⟨by rfl, ?_⟩) (by assumption) ?_; rotate_left; focus (intro w hSw; (try dsimp only at hSw); first | (go_simp; done) | (go_simp; with_reducible rfl))
                  try simp only [Act.put]
                  try simp only [List.setIfInBounds_toArray]
                  try simp only [List.set_cons_succ, List.set_cons_zero]
                  refine wpAnyH_take (i := 46) (oi := ⟨some 96, _, _, _, _, _⟩) (v := ?_) rfl (by kernel_rfl) (by kernel_rfl) (by kernel_rfl) (fun _ _ _ h => h) (Or.inl ⟨by rfl, ?_⟩) (by assumption) ?_; rotate_left; focus (intro w hSw; (try dsimp only at hSw); first | (go_simp; done) | (go_simp; with_reducible rfl))
                  try simp only [Act.put]
                  try simp only [List.setIfInBounds_toArray]
                  try simp only [List.set_cons_succ, List.set_cons_zero]
                  refine wpAnyH_take (i := 47) (oi := ⟨some 97, _, _, _, _, _⟩) (v := ?_) rfl (by kernel_rfl) (by kernel_rfl) (by kernel_rfl) (fun _ _ _ h => h) (Or.inl ⟨by rfl, ?_⟩) (by assumption) ?_; rotate_left; focus (intro w hSw; (try dsimp only at hSw); first | (go_simp; done) | (go_simp; with_reducible rfl))
                  try simp only [Act.put]
                  try simp only [List.setIfInBounds_toArray]
                  try simp only [List.set_cons_succ, List.set_cons_zero]
                  refine wpAnyH_take (i := 48) (oi := ⟨some 98, _, _, _, _, _⟩) (v := ?_) rfl (by kernel_rfl) (by kernel_rfl) (by kernel_rfl) (fun _ _ _ h => h) (Or.inl ⟨by rfl, ?_⟩) (by assumption) ?_; rotate_left; focus (intro w hSw; (try dsimp only at hSw); first | (go_simp; done) | (go_simp; with_reducible rfl))
                  try simp only [Act.put]
                  try simp only [List.setIfInBounds_toArray]
                  try simp only [List.set_cons_succ, List.set_cons_zero]
                  refine wpAnyH_take (i := 49) (oi := ⟨some 99, _, _, _, _, _⟩) (v := ?_) rfl (by kernel_rfl) (by kernel_rfl) (by kernel_rfl) (fun _ _ _ h => h) (Or.inl ⟨by rfl, ?_⟩) (by assumption) ?_; rotate_left; focus (intro w hSw; (try dsimp only at hSw); first | (go_simp; done) | (go_simp; with_reducible rfl))
                  try simp only [Act.put]
                  try simp only [List.setIfInBounds_toArray]
                  try simp only [List.set_cons_succ, List.set_cons_zero]
                  refine wpAnyH_ready (rs := [42]) (by kernel_rfl) (by simp) ?_
                  refine AllReadyH.cons (i := 42) (o := ⟨some 92, _, _, _, _, _⟩) rfl (fun K hK => ?_) ?_
                  · go_simp
                    refine (H14c.out _ (by first | exact hcur.out | exact hcur.out.drew)).mono ?_
                    rintro e w6 ⟨_, rfl, hb6, a6, c6, rfl, hn6⟩
                    have hcur := Lib.hid ((by first | exact hcur.out.trans (hb6.mono hcur.out.size) | exact hcur.out.drew.trans (hb6.mono hcur.out.size) | exact hcur.out.drew.drew.trans (hb6.mono hcur.out.size)) : Below w3.heap.size w3 w6)
                    have H13 : Hid (∀ W, Below w6.heap.size w6 W → Calls Try.prog 13 #[.slice a6 l.length c6, .string ⟨x.toArray⟩] W (Ret W fun v w' => IsB (∃ y ∈ G l x, Rch (G l) y x) v w')) := Lib.hid fun W hb => round_any a6 c6 l x W (hn6.ext hb) HL.out Hxl.out
                    clear hn6
                    refine hK.out _ _ ?_ (fun hHeld => ?_)
                    · exact ⟨below_ext hb6 hHeld.1, below_ext hb6 hHeld.2⟩
                    try simp only [Act.put]
                    try simp only [List.setIfInBounds_toArray]
                    try simp only [List.set_cons_succ, List.set_cons_zero]
                    refine wpAnyH_ready (rs := [50]) (by kernel_rfl) (by simp) ?_
                    refine AllReadyH.cons (i := 50) (o := ⟨some 100, _, _, _, _, _⟩) rfl (fun K hK => ?_) ?_
                    · go_simp
                      refine (H13.out _ (by first | exact Below.refl _ _ | exact (Below.refl _ _).drew)).mono ?_
                      rintro e w7 ⟨_, rfl, hb7, b7, rfl, hb7i⟩
                      obtain rfl : b7 = true := hb7i.2 (Hgrp.out.round h1 Hxm.out)
                      clear hb7i
                      have hcur := Lib.hid ((by first | exact hcur.out.trans (hb7.mono hcur.out.size) | exact hcur.out.drew.trans (hb7.mono hcur.out.size) | exact hcur.out.drew.drew.trans (hb7.mono hcur.out.size)) : Below w3.heap.size w3 w7)
                      refine hK.out _ _ ?_ (fun hHeld => ?_)
                      · exact ⟨below_ext hb7 hHeld.1, below_ext hb7 hHeld.2⟩
                      try simp only [Act.put]
                      try simp only [List.setIfInBounds_toArray]
                      try simp only [List.set_cons_succ, List.set_cons_zero]
                      refine wpAnyH_take (i := 51) (oi := ⟨some 101, _, _, _, _, _⟩) (v := ?_) rfl (by kernel_rfl) (by kernel_rfl) (by kernel_rfl) (fun _ _ _ h => h) (Or.inl ⟨by rfl, ?_⟩) (by assumption) ?_; rotate_left; focus (intro w hSw; (try dsimp only at hSw); first | (go_simp; done) | (go_simp; with_reducible rfl))
                      try simp only [Act.put]
                      try simp only [List.setIfInBounds_toArray]
                      try simp only [List.set_cons_succ, List.set_cons_zero]
                      refine wpAnyH_take (i := 52) (oi := ⟨some 102, _, _, _, _, _⟩) (v := ?_) rfl (by kernel_rfl) (by kernel_rfl) (by kernel_rfl) (fun _ _ _ h => h) (Or.inl ⟨by rfl, ?_⟩) (by assumption) ?_; rotate_left; focus (intro w hSw; (try dsimp only at hSw); first | (go_simp; done) | (go_simp; with_reducible rfl))
                      try simp only [Act.put]
                      try simp only [List.setIfInBounds_toArray]
                      try simp only [List.set_cons_succ, List.set_cons_zero]
                      refine wpAnyH_take (i := 53) (oi := ⟨some 103, _, _, _, _, _⟩) (v := ?_) rfl (by kernel_rfl) (by kernel_rfl) (by kernel_rfl) (fun _ _ _ h => h) (Or.inl ⟨by rfl, ?_⟩) (by assumption) ?_; rotate_left; focus (intro w hSw; (try dsimp only at hSw); first | (go_simp; done) | (go_simp; with_reducible rfl))
                      try simp only [Act.put]
                      try simp only [List.setIfInBounds_toArray]
                      try simp only [List.set_cons_succ, List.set_cons_zero]
                      refine wpAnyH_done (by kernel_rfl) ?_ _
                      go_wp2
                      go_roundw
                      case rel => exact ⟨1, by omega, by go_num, Lib.hid (by first | exact hcur.out | exact hcur.out.drew | exact hb.out | exact hb.out.drew)⟩
                      case measure => simp [intOf]; omega
                    exact AllReadyH.nil
                  exact AllReadyH.nil
                exact AllReadyH.nil
            · have h1i : decide ((1 : Int) < (r.l.length : Int)) = false := decide_eq_false (by omega)
              obtain rfl : j = 0 := by omega
              rw [Nat.add_zero] at x0
              go_wp2_with fail
              refine wp_region_held_drew (S := fun w' => w'.cell? ⟨gb, go_ + k, none⟩ = some (.slice (some ⟨xb, xo, none⟩) r.l.length r.c) ∧ w'.cell? ⟨xb, xo, none⟩ = some (.string ⟨x.toArray⟩)) (by kernel_rfl) ?_ (fun hHeld => ?_)
              · exact ⟨u2, x0⟩
              refine wpAnyH_take (i := 0) (oi := ⟨some 50, _, _, _, _, _⟩) (v := ?_) rfl (by kernel_rfl) (by kernel_rfl) (by kernel_rfl) (fun _ _ _ h => h) (Or.inl ⟨by rfl, ?_⟩) (by assumption) ?_; rotate_left; focus (intro w hSw; (try dsimp only at hSw); first | (go_simp; done) | (go_simp; with_reducible rfl))
              try simp only [Act.put]
              try simp only [List.setIfInBounds_toArray]
              try simp only [List.set_cons_succ, List.set_cons_zero]
              refine wpAnyH_take (i := 1) (oi := ⟨some 51, _, _, _, _, _⟩) (v := ?_) rfl (by kernel_rfl) (by kernel_rfl) (by kernel_rfl) (fun _ _ _ h => h) (Or.inl ⟨by rfl, ?_⟩) (by assumption) ?_; rotate_left; focus (intro w hSw; (try dsimp only at hSw); first | (go_simp; done) | (go_simp; with_reducible rfl))
              try simp only [Act.put]
              try simp only [List.setIfInBounds_toArray]
              try simp only [List.set_cons_succ, List.set_cons_zero]
              refine wpAnyH_take (i := 2) (oi := ⟨some 52, _, _, _, _, _⟩) (v := ?_) rfl (by kernel_rfl) (by kernel_rfl) (by kernel_rfl) (fun _ _ _ h => h) (Or.inl ⟨by rfl, ?_⟩) (by assumption) ?_; rotate_left; focus (intro w hSw; (try dsimp only at hSw); first | (go_simp; done) | (go_simp; with_reducible rfl))
              try simp only [Act.put]
              try simp only [List.setIfInBounds_toArray]
              try simp only [List.set_cons_succ, List.set_cons_zero]
              refine wpAnyH_take (i := 3) (oi := ⟨some 53, _, _, _, _, _⟩) (v := ?_) rfl (by kernel_rfl) (by kernel_rfl) (by kernel_rfl) (fun _ _ _ h => h) (Or.inl ⟨by rfl, ?_⟩) (by assumption) ?_; rotate_left; focus (intro w hSw; (try dsimp only at hSw); first | (go_simp; done) | (go_simp; with_reducible rfl))
              try simp only [Act.put]
              try simp only [List.setIfInBounds_toArray]
              try simp only [List.set_cons_succ, List.set_cons_zero]
              refine wpAnyH_take (i := 4) (oi := ⟨some 54, _, _, _, _, _⟩) (v := ?_) rfl (by kernel_rfl) (by kernel_rfl) (by kernel_rfl) (fun _ _ _ h => h) (Or.inl ⟨by rfl, ?_⟩) (by assumption) ?_; rotate_left; focus (intro w hSw; (try dsimp only at hSw); first | (go_simp; done) | (go_simp; with_reducible rfl))
              try simp only [Act.put]
              try simp only [List.setIfInBounds_toArray]
              try simp only [List.set_cons_succ, List.set_cons_zero]
              refine wpAnyH_take (i := 5) (oi := ⟨some 55, _, _, _, _, _⟩) (v := ?_) rfl (by kernel_rfl) (by kernel_rfl) (by kernel_rfl) (fun _ _ _ h => h) (Or.inl ⟨by rfl, ?_⟩) (by assumption) ?_; rotate_left; focus (intro w hSw; (try dsimp only at hSw); first | (go_simp; done) | (go_simp; with_reducible rfl))
              try simp only [Act.put]
              try simp only [List.setIfInBounds_toArray]
              try simp only [List.set_cons_succ, List.set_cons_zero]
              refine wpAnyH_take (i := 6) (oi := ⟨some 56, _, _, _, _, _⟩) (v := ?_) rfl (by kernel_rfl) (by kernel_rfl) (by kernel_rfl) (fun _ _ _ h => h) (Or.inl ⟨by rfl, ?_⟩) (by assumption) ?_; rotate_left; focus (intro w hSw; (try dsimp only at hSw); first | (go_simp; done) | (go_simp; with_reducible rfl))
              try simp only [Act.put]
              try simp only [List.setIfInBounds_toArray]
              try simp only [List.set_cons_succ, List.set_cons_zero]
              refine wpAnyH_take (i := 7) (oi := ⟨some 57, _, _, _, _, _⟩) (v := ?_) rfl (by kernel_rfl) (by kernel_rfl) (by kernel_rfl) (fun _ _ _ h => h) (Or.inl ⟨by rfl, ?_⟩) (by assumption) ?_; rotate_left; focus (intro w hSw; (try dsimp only at hSw); first | (go_simp; done) | (go_simp; with_reducible rfl))
              try simp only [Act.put]
              try simp only [List.setIfInBounds_toArray]
              try simp only [List.set_cons_succ, List.set_cons_zero]
              refine wpAnyH_take (i := 9) (oi := ⟨some 59, _, _, _, _, _⟩) (v := ?_) rfl (by kernel_rfl) (by kernel_rfl) (by kernel_rfl) (fun _ _ _ h => h) (Or.inl ⟨by rfl, ?_⟩) (by assumption) ?_; rotate_left; focus (intro w hSw; (try dsimp only at hSw); first | (go_simp; done) | (go_simp; with_reducible rfl))
              try simp only [Act.put]
              try simp only [List.setIfInBounds_toArray]
              try simp only [List.set_cons_succ, List.set_cons_zero]
              refine wpAnyH_ready (rs := [8]) (by kernel_rfl) (by simp) ?_
              refine AllReadyH.cons (i := 8) (o := ⟨some 58, _, _, _, _, _⟩) rfl (fun K hK => ?_) ?_
              · go_simp
                refine (HP.out x _ (by first | exact hb.out | exact hb.out.drew)).mono ?_
                rintro e w5 ⟨rfl, rfl⟩
                rw [Hpl.out]
                refine hK.out _ _ ?_ (fun hHeld => ?_)
                · exact hHeld
                try simp only [Act.put]
                try simp only [List.setIfInBounds_toArray]
                try simp only [List.set_cons_succ, List.set_cons_zero]
                refine wpAnyH_take (i := 10) (oi := ⟨some 60, _, _, _, _, _⟩) (v := ?_) rfl (by kernel_rfl) (by kernel_rfl) (by kernel_rfl) (fun _ _ _ h => h) (Or.inl ⟨by rfl, ?_⟩) (by assumption) ?_; rotate_left; focus (intro w hSw; (try dsimp only at hSw); first | (go_simp; done) | (go_simp; with_reducible rfl))
                try simp only [Act.put]
                try simp only [List.setIfInBounds_toArray]
                try simp only [List.set_cons_succ, List.set_cons_zero]
                refine wpAnyH_take (i := 11) (oi := ⟨some 61, _, _, _, _, _⟩) (v := ?_) rfl (by kernel_rfl) (by kernel_rfl) (by kernel_rfl) (fun _ _ _ h => h) (Or.inl ⟨by rfl, ?_⟩) (by assumption) ?_; rotate_left; focus (intro w hSw; (try dsimp only at hSw); first | (go_simp; done) | (go_simp; with_reducible rfl))
                try simp only [Act.put]
                try simp only [List.setIfInBounds_toArray]
                try simp only [List.set_cons_succ, List.set_cons_zero]
                refine wpAnyH_take (i := 12) (oi := ⟨some 62, _, _, _, _, _⟩) (v := ?_) rfl (by kernel_rfl) (by kernel_rfl) (by kernel_rfl) (fun _ _ _ h => h) (Or.inl ⟨by rfl, ?_⟩) (by assumption) ?_; rotate_left; focus (intro w hSw; (try dsimp only at hSw); first | (go_simp; done) | (go_simp; with_reducible rfl))
                try simp only [Act.put]
                try simp only [List.setIfInBounds_toArray]
                try simp only [List.set_cons_succ, List.set_cons_zero]
                refine wpAnyH_take (i := 13) (oi := ⟨some 63, _, _, _, _, _⟩) (v := ?_) rfl (by kernel_rfl) (by kernel_rfl) (by kernel_rfl) (fun _ _ _ h => h) (Or.inl ⟨by rfl, ?_⟩) (by assumption) ?_; rotate_left; focus (intro w hSw; (try dsimp only at hSw); first | (go_simp; done) | (go_simp; with_reducible rfl))
                try simp only [Act.put]
                try simp only [List.setIfInBounds_toArray]
                try simp only [List.set_cons_succ, List.set_cons_zero]
                refine wpAnyH_take (i := 14) (oi := ⟨some 64, _, _, _, _, _⟩) (v := ?_) rfl (by kernel_rfl) (by kernel_rfl) (by kernel_rfl) (fun _ _ _ h => h) (Or.inl ⟨by rfl, ?_⟩) (by assumption) ?_; rotate_left; focus (intro w hSw; (try dsimp only at hSw); first | (go_simp; done) | (go_simp; with_reducible rfl))
                try simp only [Act.put]
                try simp only [List.setIfInBounds_toArray]
                try simp only [List.set_cons_succ, List.set_cons_zero]
                refine wpAnyH_take (i := 15) (oi := ⟨some 65, _, _, _, _, _⟩) (v := undef) rfl (by kernel_rfl) (by kernel_rfl) (by kernel_rfl) (fun _ _ _ h => h) (Or.inr ⟨by rfl, rfl⟩) (by assumption) ?_
                try simp only [Act.put]
                try simp only [List.setIfInBounds_toArray]
                try simp only [List.set_cons_succ, List.set_cons_zero]
                refine wpAnyH_take (i := 16) (oi := ⟨some 66, _, _, _, _, _⟩) (v := undef) rfl (by kernel_rfl) (by kernel_rfl) (by kernel_rfl) (fun _ _ _ h => h) (Or.inr ⟨by rfl, rfl⟩) (by assumption) ?_
                try simp only [Act.put]
                try simp only [List.setIfInBounds_toArray]
                try simp only [List.set_cons_succ, List.set_cons_zero]
                refine wpAnyH_take (i := 17) (oi := ⟨some 67, _, _, _, _, _⟩) (v := undef) rfl (by kernel_rfl) (by kernel_rfl) (by kernel_rfl) (fun _ _ _ h => h) (Or.inr ⟨by rfl, rfl⟩) (by assumption) ?_
                try simp only [Act.put]
                try simp only [List.setIfInBounds_toArray]
                try simp only [List.set_cons_succ, List.set_cons_zero]
                refine wpAnyH_take (i := 18) (oi := ⟨some 68, _, _, _, _, _⟩) (v := undef) rfl (by kernel_rfl) (by kernel_rfl) (by kernel_rfl) (fun _ _ _ h => h) (Or.inr ⟨by rfl, rfl⟩) (by assumption) ?_
                try simp only [Act.put]
                try simp only [List.setIfInBounds_toArray]
                try simp only [List.set_cons_succ, List.set_cons_zero]
                refine wpAnyH_take (i := 19) (oi := ⟨some 69, _, _, _, _, _⟩) (v := undef) rfl (by kernel_rfl) (by kernel_rfl) (by kernel_rfl) (fun _ _ _ h => h) (Or.inr ⟨by rfl, rfl⟩) (by assumption) ?_
                try simp only [Act.put]
                try simp only [List.setIfInBounds_toArray]
                try simp only [List.set_cons_succ, List.set_cons_zero]
                refine wpAnyH_take (i := 20) (oi := ⟨some 70, _, _, _, _, _⟩) (v := undef) rfl (by kernel_rfl) (by kernel_rfl) (by kernel_rfl) (fun _ _ _ h => h) (Or.inr ⟨by rfl, rfl⟩) (by assumption) ?_
                try simp only [Act.put]
                try simp only [List.setIfInBounds_toArray]
                try simp only [List.set_cons_succ, List.set_cons_zero]
                refine wpAnyH_take (i := 21) (oi := ⟨some 71, _, _, _, _, _⟩) (v := undef) rfl (by kernel_rfl) (by kernel_rfl) (by kernel_rfl) (fun _ _ _ h => h) (Or.inr ⟨by rfl, rfl⟩) (by assumption) ?_
                try simp only [Act.put]
                try simp only [List.setIfInBounds_toArray]
                try simp only [List.set_cons_succ, List.set_cons_zero]
                refine wpAnyH_take (i := 22) (oi := ⟨some 72, _, _, _, _, _⟩) (v := undef) rfl (by kernel_rfl) (by kernel_rfl) (by kernel_rfl) (fun _ _ _ h => h) (Or.inr ⟨by rfl, rfl⟩) (by assumption) ?_
                try simp only [Act.put]
                try simp only [List.setIfInBounds_toArray]
                try simp only [List.set_cons_succ, List.set_cons_zero]
                refine wpAnyH_take (i := 23) (oi := ⟨some 73, _, _, _, _, _⟩) (v := undef) rfl (by kernel_rfl) (by kernel_rfl) (by kernel_rfl) (fun _ _ _ h => h) (Or.inr ⟨by rfl, rfl⟩) (by assumption) ?_
                try simp only [Act.put]
                try simp only [List.setIfInBounds_toArray]
                try simp only [List.set_cons_succ, List.set_cons_zero]
                refine wpAnyH_take (i := 24) (oi := ⟨some 74, _, _, _, _, _⟩) (v := undef) rfl (by kernel_rfl) (by kernel_rfl) (by kernel_rfl) (fun _ _ _ h => h) (Or.inr ⟨by rfl, rfl⟩) (by assumption) ?_
                try simp only [Act.put]
                try simp only [List.setIfInBounds_toArray]
                try simp only [List.set_cons_succ, List.set_cons_zero]
                refine wpAnyH_take (i := 25) (oi := ⟨some 75, _, _, _, _, _⟩) (v := undef) rfl (by kernel_rfl) (by kernel_rfl) (by kernel_rfl) (fun _ _ _ h => h) (Or.inr ⟨by rfl, rfl⟩) (by assumption) ?_
                try simp only [Act.put]
                try simp only [List.setIfInBounds_toArray]
                try simp only [List.set_cons_succ, List.set_cons_zero]
                refine wpAnyH_take (i := 26) (oi := ⟨some 76, _, _, _, _, _⟩) (v := undef) rfl (by kernel_rfl) (by kernel_rfl) (by kernel_rfl) (fun _ _ _ h => h) (Or.inr ⟨by rfl, rfl⟩) (by assumption) ?_
                try simp only [Act.put]
                try simp only [List.setIfInBounds_toArray]
                try simp only [List.set_cons_succ, List.set_cons_zero]
                refine wpAnyH_take (i := 27) (oi := ⟨some 77, _, _, _, _, _⟩) (v := undef) rfl (by kernel_rfl) (by kernel_rfl) (by kernel_rfl) (fun _ _ _ h => h) (Or.inr ⟨by rfl, rfl⟩) (by assumption) ?_
                try simp only [Act.put]
                try simp only [List.setIfInBounds_toArray]
                try simp only [List.set_cons_succ, List.set_cons_zero]
                refine wpAnyH_take (i := 28) (oi := ⟨some 78, _, _, _, _, _⟩) (v := undef) rfl (by kernel_rfl) (by kernel_rfl) (by kernel_rfl) (fun _ _ _ h => h) (Or.inr ⟨by rfl, rfl⟩) (by assumption) ?_
                try simp only [Act.put]
                try simp only [List.setIfInBounds_toArray]
                try simp only [List.set_cons_succ, List.set_cons_zero]
                refine wpAnyH_take (i := 29) (oi := ⟨some 79, _, _, _, _, _⟩) (v := undef) rfl (by kernel_rfl) (by kernel_rfl) (by kernel_rfl) (fun _ _ _ h => h) (Or.inr ⟨by rfl, rfl⟩) (by assumption) ?_
                try simp only [Act.put]
                try simp only [List.setIfInBounds_toArray]
                try simp only [List.set_cons_succ, List.set_cons_zero]
                refine wpAnyH_take (i := 30) (oi := ⟨some 80, _, _, _, _, _⟩) (v := undef) rfl (by kernel_rfl) (by kernel_rfl) (by kernel_rfl) (fun _ _ _ h => h) (Or.inr ⟨by rfl, rfl⟩) (by assumption) ?_
                try simp only [Act.put]
                try simp only [List.setIfInBounds_toArray]
                try simp only [List.set_cons_succ, List.set_cons_zero]
                refine wpAnyH_take (i := 31) (oi := ⟨some 81, _, _, _, _, _⟩) (v := ?_) rfl (by kernel_rfl) (by kernel_rfl) (by kernel_rfl) (fun _ _ _ h => h) (Or.inl ⟨by rfl, ?_⟩) (by assumption) ?_; rotate_left; focus (intro w hSw; (try dsimp only at hSw); first | (go_simp; done) | (go_simp; with_reducible rfl))
                try simp only [Act.put]
                try simp only [List.setIfInBounds_toArray]
                try simp only [List.set_cons_succ, List.set_cons_zero]
                refine wpAnyH_take (i := 32) (oi := ⟨some 82, _, _, _, _, _⟩) (v := ?_) rfl (by kernel_rfl) (by kernel_rfl) (by kernel_rfl) (fun _ _ _ h => h) (Or.inl ⟨by rfl, ?_⟩) (by assumption) ?_; rotate_left; focus (intro w hSw; (try dsimp only at hSw); first | (go_simp; done) | (go_simp; with_reducible rfl))
                try simp only [Act.put]
                try simp only [List.setIfInBounds_toArray]
                try simp only [List.set_cons_succ, List.set_cons_zero]
                refine wpAnyH_take (i := 33) (oi := ⟨some 83, _, _, _, _, _⟩) (v := ?_) rfl (by kernel_rfl) (by kernel_rfl) (by kernel_rfl) (fun _ _ _ h => h) (Or.inl ⟨by rfl, ?_⟩) (by assumption) ?_; rotate_left; focus (intro w hSw; (try dsimp only at hSw); first | (go_simp; done) | (go_simp; with_reducible rfl))
                try simp only [Act.put]
                try simp only [List.setIfInBounds_toArray]
                try simp only [List.set_cons_succ, List.set_cons_zero]
                refine wpAnyH_take (i := 34) (oi := ⟨some 84, _, _, _, _, _⟩) (v := ?_) rfl (by kernel_rfl) (by kernel_rfl) (by kernel_rfl) (fun _ _ _ h => h) (Or.inl ⟨by rfl, ?_⟩) (by assumption) ?_; rotate_left; focus (intro w hSw; (try dsimp only at hSw); first | (go_simp; done) | (go_simp; with_reducible rfl))
                try simp only [Act.put]
                try simp only [List.setIfInBounds_toArray]
                try simp only [List.set_cons_succ, List.set_cons_zero]
                refine wpAnyH_take (i := 35) (oi := ⟨some 85, _, _, _, _, _⟩) (v := ?_) rfl (by kernel_rfl) (by kernel_rfl) (by kernel_rfl) (fun _ _ _ h => h) (Or.inl ⟨by rfl, ?_⟩) (by assumption) ?_; rotate_left; focus (intro w hSw; (try dsimp only at hSw); first | (go_simp; done) | (go_simp; with_reducible rfl))
                try simp only [Act.put]
                try simp only [List.setIfInBounds_toArray]
                try simp only [List.set_cons_succ, List.set_cons_zero]
                refine wpAnyH_take (i := 36) (oi := ⟨some 86, _, _, _, _, _⟩) (v := ?_) rfl (by kernel_rfl) (by kernel_rfl) (by kernel_rfl) (fun _ _ _ h => h) (Or.inl ⟨by rfl, ?_⟩) (by assumption) ?_; rotate_left; focus (intro w hSw; (try dsimp only at hSw); first | (go_simp; done) | (go_simp; with_reducible rfl))
                try simp only [Act.put]
                try simp only [List.setIfInBounds_toArray]
                try simp only [List.set_cons_succ, List.set_cons_zero]
                refine wpAnyH_take (i := 37) (oi := ⟨some 87, _, _, _, _, _⟩) (v := ?_) rfl (by kernel_rfl) (by kernel_rfl) (by kernel_rfl) (fun _ _ _ h => h) (Or.inl ⟨by rfl, ?_⟩) (by assumption) ?_; rotate_left; focus (intro w hSw; (try dsimp only at hSw); first | (go_simp; done) | (go_simp; with_reducible rfl))
                try simp only [Act.put]
                try simp only [List.setIfInBounds_toArray]
                try simp only [List.set_cons_succ, List.set_cons_zero]
                refine wpAnyH_take (i := 38) (oi := ⟨some 88, _, _, _, _, _⟩) (v := ?_) rfl (by kernel_rfl) (by kernel_rfl) (by kernel_rfl) (fun _ _ _ h => h) (Or.inl ⟨by rfl, ?_⟩) (by assumption) ?_; rotate_left; focus (intro w hSw; (try dsimp only at hSw); first | (go_simp; done) | (go_simp; with_reducible rfl))
                try simp only [Act.put]
                try simp only [List.setIfInBounds_toArray]
                try simp only [List.set_cons_succ, List.set_cons_zero]
                refine wpAnyH_take (i := 39) (oi := ⟨some 89, _, _, _, _, _⟩) (v := ?_) rfl (by kernel_rfl) (by kernel_rfl) (by kernel_rfl) (fun _ _ _ h => h) (Or.inl ⟨by rfl, ?_⟩) (by assumption) ?_; rotate_left; focus (intro w hSw; (try dsimp only at hSw); first | (go_simp; done) | (go_simp; with_reducible rfl))
                try simp only [Act.put]
                try simp only [List.setIfInBounds_toArray]
                try simp only [List.set_cons_succ, List.set_cons_zero]
                refine wpAnyH_take (i := 40) (oi := ⟨some 90, _, _, _, _, _⟩) (v := ?_) rfl (by kernel_rfl) (by kernel_rfl) (by kernel_rfl) (fun _ _ _ h => h) (Or.inl ⟨by rfl, ?_⟩) (by assumption) ?_; rotate_left; focus (intro w hSw; (try dsimp only at hSw); first | (go_simp; done) | (go_simp; with_reducible rfl))
                try simp only [Act.put]
                try simp only [List.setIfInBounds_toArray]
                try simp only [List.set_cons_succ, List.set_cons_zero]
                refine wpAnyH_take (i := 41) (oi := ⟨some 91, _, _, _, _, _⟩) (v := undef) rfl (by kernel_rfl) (by kernel_rfl) (by kernel_rfl) (fun _ _ _ h => h) (Or.inr ⟨by rfl, rfl⟩) (by assumption) ?_
                try simp only [Act.put]
                try simp only [List.setIfInBounds_toArray]
                try simp only [List.set_cons_succ, List.set_cons_zero]
                refine wpAnyH_take (i := 42) (oi := ⟨some 92, _, _, _, _, _⟩) (v := undef) rfl (by kernel_rfl) (by kernel_rfl) (by kernel_rfl) (fun _ _ _ h => h) (Or.inr ⟨by rfl, rfl⟩) (by assumption) ?_
                try simp only [Act.put]
                try simp only [List.setIfInBounds_toArray]
                try simp only [List.set_cons_succ, List.set_cons_zero]
                refine wpAnyH_take (i := 43) (oi := ⟨some 93, _, _, _, _, _⟩) (v := undef) rfl (by kernel_rfl) (by kernel_rfl) (by kernel_rfl) (fun _ _ _ h => h) (Or.inr ⟨by rfl, rfl⟩) (by assumption) ?_
                try simp only [Act.put]
                try simp only [List.setIfInBounds_toArray]
                try simp only [List.set_cons_succ, List.set_cons_zero]
                refine wpAnyH_take (i := 44) (oi := ⟨some 94, _, _, _, _, _⟩) (v := undef) rfl (by kernel_rfl) (by kernel_rfl) (by kernel_rfl) (fun _ _ _ h => h) (Or.inr ⟨by rfl, rfl⟩) (by assumption) ?_
                try simp only [Act.put]
                try simp only [List.setIfInBounds_toArray]
                try simp only [List.set_cons_succ, List.set_cons_zero]
                refine wpAnyH_take (i := 45) (oi := ⟨some 95, _, _, _, _, _⟩) (v := undef) rfl (by kernel_rfl) (by kernel_rfl) (by kernel_rfl) (fun _ _ _ h => h) (Or.inr ⟨by rfl, rfl⟩) (by assumption) ?_
                try simp only [Act.put]
                try simp only [List.setIfInBounds_toArray]
                try simp only [List.set_cons_succ, List.set_cons_zero]
                refine wpAnyH_take (i := 46) (oi := ⟨some 96, _, _, _, _, _⟩) (v := undef) rfl (by kernel_rfl) (by kernel_rfl) (by kernel_rfl) (fun _ _ _ h => h) (Or.inr ⟨by rfl, rfl⟩) (by assumption) ?_
                try simp only [Act.put]
                try simp only [List.setIfInBounds_toArray]
                try simp only [List.set_cons_succ, List.set_cons_zero]
                refine wpAnyH_take (i := 47) (oi := ⟨some 97, _, _, _, _, _⟩) (v := undef) rfl (by kernel_rfl) (by kernel_rfl) (by kernel_rfl) (fun _ _ _ h => h) (Or.inr ⟨by rfl, rfl⟩) (by assumption) ?_
                try simp only [Act.put]
                try simp only [List.setIfInBounds_toArray]
                try simp only [List.set_cons_succ, List.set_cons_zero]
                refine wpAnyH_take (i := 48) (oi := ⟨some 98, _, _, _, _, _⟩) (v := undef) rfl (by kernel_rfl) (by kernel_rfl) (by kernel_rfl) (fun _ _ _ h => h) (Or.inr ⟨by rfl, rfl⟩) (by assumption) ?_
                try simp only [Act.put]
                try simp only [List.setIfInBounds_toArray]
                try simp only [List.set_cons_succ, List.set_cons_zero]
                refine wpAnyH_take (i := 49) (oi := ⟨some 99, _, _, _, _, _⟩) (v := undef) rfl (by kernel_rfl) (by kernel_rfl) (by kernel_rfl) (fun _ _ _ h => h) (Or.inr ⟨by rfl, rfl⟩) (by assumption) ?_
                try simp only [Act.put]
                try simp only [List.setIfInBounds_toArray]
                try simp only [List.set_cons_succ, List.set_cons_zero]
                refine wpAnyH_take (i := 50) (oi := ⟨some 100, _, _, _, _, _⟩) (v := undef) rfl (by kernel_rfl) (by kernel_rfl) (by kernel_rfl) (fun _ _ _ h => h) (Or.inr ⟨by rfl, rfl⟩) (by assumption) ?_
                try simp only [Act.put]
                try simp only [List.setIfInBounds_toArray]
                try simp only [List.set_cons_succ, List.set_cons_zero]
                refine wpAnyH_take (i := 51) (oi := ⟨some 101, _, _, _, _, _⟩) (v := undef) rfl (by kernel_rfl) (by kernel_rfl) (by kernel_rfl) (fun _ _ _ h => h) (Or.inr ⟨by rfl, rfl⟩) (by assumption) ?_
                try simp only [Act.put]
                try simp only [List.setIfInBounds_toArray]
                try simp only [List.set_cons_succ, List.set_cons_zero]
                refine wpAnyH_take (i := 52) (oi := ⟨some 102, _, _, _, _, _⟩) (v := ?_) rfl (by kernel_rfl) (by kernel_rfl) (by kernel_rfl) (fun _ _ _ h => h) (Or.inl ⟨by rfl, ?_⟩) (by assumption) ?_; rotate_left; focus (intro w hSw; (try dsimp only at hSw); first | (go_simp; done) | (go_simp; with_reducible rfl))
                try simp only [Act.put]
                try simp only [List.setIfInBounds_toArray]
                try simp only [List.set_cons_succ, List.set_cons_zero]
                refine wpAnyH_take (i := 53) (oi := ⟨some 103, _, _, _, _, _⟩) (v := ?_) rfl (by kernel_rfl) (by kernel_rfl) (by kernel_rfl) (fun _ _ _ h => h) (Or.inl ⟨by rfl, ?_⟩) (by assumption) ?_; rotate_left; focus (intro w hSw; (try dsimp only at hSw); first | (go_simp; done) | (go_simp; with_reducible rfl))
                try simp only [Act.put]
                try simp only [List.setIfInBounds_toArray]
                try simp only [List.set_cons_succ, List.set_cons_zero]
                refine wpAnyH_done (by kernel_rfl) ?_ _
                go_wp2
                go_roundw
                case rel => exact ⟨1, by omega, by go_num, Lib.hid (by first | exact hcur.out | exact hcur.out.drew | exact hb.out | exact hb.out.drew)⟩
                case measure => simp [intOf]; omega
              exact AllReadyH.nil
          · obtain rfl : j = r.l.length := by omega
            have hcs := Hcs.out
            go_wp2_with fail
            go_roundw
            case rel => exact ⟨k + 1, by omega, by go_num, by rw [Hcs.out]; go_num, hb⟩
            case measure => simp [intOf]; omega
      · obtain rfl : k = gs.length := by omega
        have Hbb := Lib.hid (Hb3.out.trans (hb.out.mono Hb3.out.size))
        have Hc := hb
        have hnr := namesR_any a c l wr (HN.out.ext Hbb.out) hlen
        have Hnr := Lib.hid hnr
        clear hnr hb
        go_wp2_with fail
        refine Hnr.out.mono ?_
        clear Hnr
        rintro e w4 ⟨_, rfl, hb4, all, aa, ca, rfl, hra, hpa, hma, hla⟩
        have hct : gcnt (gs.map RowD.l) gs.length = all.length := by
          have h1 := gcnt_all (gs.map RowD.l)
          rw [List.length_map] at h1
          rw [h1]
          exact HQ.out.1.count HQ.out.2 hpa hma
        have Hb4 := Lib.hid (Hbb.out.trans (hb4.mono Hbb.out.size))
        have HN4 := Lib.hid (HN.out.ext Hb4.out)
        have HP4 : Hid (∀ x W, Below w4.heap.size w4 W → Calls Try.prog 21 #[.slice ag gs.length cg, .string ⟨x.toArray⟩] W fun e w' => e = .returned (.int .i64 (placeOf (gs.map RowD.l) x)) ∧ W = w') := Lib.hid fun x W h => HP.out x W ((Hc.out.trans (hb4.mono Hc.out.size)).trans (h.mono (Hc.out.trans (hb4.mono Hc.out.size)).size))
        rw [hct]
        clear hb4 hra hpa hma hla hct HP Hbb Hc HN
        go_wp2_with fail
        go_loopw [8] (fun i wq => ∃ k : Nat, k ≤ l.length ∧ i = .int .i64 k ∧ Hid (Below w4.heap.size w4 wq)) (fun i _ => l.length - (intOf i).toNat)
        case atStart => exact ⟨0, Nat.zero_le _, rfl, Lib.hid (Below.refl _ _)⟩
        case round =>
          obtain ⟨k, hk, rfl, hb⟩ := hrel
          by_cases hlt : k < l.length
          · obtain ⟨d, hd⟩ := get_some hlt
            have Hd := Lib.hid hd
            obtain ⟨nb, no, rfl, c0, c1, -, -⟩ := node_at (HN4.out.ext hb.out) hd
            clear hd
            go_wp2_with fail
            refine (HP4.out d.name _ hb.out).mono ?_
            rintro e w5 ⟨rfl, rfl⟩
            go_wp2_with fail
            go_loopw [10, 11] (fun f i wq => ∃ (j : Nat) (b : Bool), j ≤ k ∧ i = .int .i64 j ∧ f = .bool b ∧ Hid (b = true ↔ ∀ q (e : NodeD), q < j → l[q]? = some e → e.name ≠ d.name) ∧ Hid (Below w4.heap.size w4 wq)) (fun _ i _ => k - (intOf i).toNat)
            case atStart => exact ⟨0, true, Nat.zero_le _, rfl, rfl, Lib.hid ⟨fun _ q e h => by omega, fun _ => rfl⟩, hb⟩
            case round =>
              clear c0 c1
              obtain ⟨j, b, hj, rfl, rfl, hbi, hb⟩ := hrel
              by_cases hlt2 : j < k
              · obtain ⟨e, he⟩ := get_some (show j < l.length by omega)
                have He := Lib.hid he
                obtain ⟨nb1, no1, haa, c0, -, -, -⟩ := node_at (HN4.out.ext hb.out) he
                obtain ⟨rfl, rfl⟩ : nb = nb1 ∧ no = no1 := by simpa using haa
                obtain ⟨nb2, no2, hab, c1, -, -, -⟩ := node_at (HN4.out.ext hb.out) Hd.out
                obtain ⟨rfl, rfl⟩ : nb = nb2 ∧ no = no2 := by simpa using hab
                have hjl : j < l.length := by omega
                clear he hab haa
                cases b
                · go_wp2_with fail
                  refine wp_region_held_drew (S := fun w' => w'.cell? ⟨nb, no + j * 2, none⟩ = some (.string ⟨e.name.toArray⟩) ∧ w'.cell? ⟨nb, no + k * 2, none⟩ = some (.string ⟨d.name.toArray⟩)) (by kernel_rfl) ?_ (fun hHeld => ?_)
                  · exact ⟨c0, c1⟩
                  refine wpAnyH_take (i := 0) (oi := ⟨some 127, _, _, _, _, _⟩) (v := ?_) rfl (by kernel_rfl) (by kernel_rfl) (by kernel_rfl) (fun _ _ _ h => h) (Or.inl ⟨by rfl, ?_⟩) (by assumption) ?_; rotate_left; focus (intro w hSw; (try dsimp only at hSw); first | (go_simp; done) | (go_simp; with_reducible rfl))
                  try simp only [Act.put]
                  try simp only [List.setIfInBounds_toArray]
                  try simp only [List.set_cons_succ, List.set_cons_zero]
                  refine wpAnyH_take (i := 1) (oi := ⟨some 128, _, _, _, _, _⟩) (v := ?_) rfl (by kernel_rfl) (by kernel_rfl) (by kernel_rfl) (fun _ _ _ h => h) (Or.inl ⟨by rfl, ?_⟩) (by assumption) ?_; rotate_left; focus (intro w hSw; (try dsimp only at hSw); first | (go_simp; done) | (go_simp; with_reducible rfl))
                  try simp only [Act.put]
                  try simp only [List.setIfInBounds_toArray]
                  try simp only [List.set_cons_succ, List.set_cons_zero]
                  refine wpAnyH_take (i := 2) (oi := ⟨some 129, _, _, _, _, _⟩) (v := undef) rfl (by kernel_rfl) (by kernel_rfl) (by kernel_rfl) (fun _ _ _ h => h) (Or.inr ⟨by rfl, rfl⟩) (by assumption) ?_
                  try simp only [Act.put]
                  try simp only [List.setIfInBounds_toArray]
                  try simp only [List.set_cons_succ, List.set_cons_zero]
                  refine wpAnyH_take (i := 3) (oi := ⟨some 130, _, _, _, _, _⟩) (v := undef) rfl (by kernel_rfl) (by kernel_rfl) (by kernel_rfl) (fun _ _ _ h => h) (Or.inr ⟨by rfl, rfl⟩) (by assumption) ?_
                  try simp only [Act.put]
                  try simp only [List.setIfInBounds_toArray]
                  try simp only [List.set_cons_succ, List.set_cons_zero]
                  refine wpAnyH_take (i := 4) (oi := ⟨some 131, _, _, _, _, _⟩) (v := undef) rfl (by kernel_rfl) (by kernel_rfl) (by kernel_rfl) (fun _ _ _ h => h) (Or.inr ⟨by rfl, rfl⟩) (by assumption) ?_
                  try simp only [Act.put]
                  try simp only [List.setIfInBounds_toArray]
                  try simp only [List.set_cons_succ, List.set_cons_zero]
                  refine wpAnyH_take (i := 5) (oi := ⟨some 132, _, _, _, _, _⟩) (v := undef) rfl (by kernel_rfl) (by kernel_rfl) (by kernel_rfl) (fun _ _ _ h => h) (Or.inr ⟨by rfl, rfl⟩) (by assumption) ?_
                  try simp only [Act.put]
                  try simp only [List.setIfInBounds_toArray]
                  try simp only [List.set_cons_succ, List.set_cons_zero]
                  refine wpAnyH_take (i := 6) (oi := ⟨some 133, _, _, _, _, _⟩) (v := undef) rfl (by kernel_rfl) (by kernel_rfl) (by kernel_rfl) (fun _ _ _ h => h) (Or.inr ⟨by rfl, rfl⟩) (by assumption) ?_
                  try simp only [Act.put]
                  try simp only [List.setIfInBounds_toArray]
                  try simp only [List.set_cons_succ, List.set_cons_zero]
                  refine wpAnyH_take (i := 7) (oi := ⟨some 134, _, _, _, _, _⟩) (v := undef) rfl (by kernel_rfl) (by kernel_rfl) (by kernel_rfl) (fun _ _ _ h => h) (Or.inr ⟨by rfl, rfl⟩) (by assumption) ?_
                  try simp only [Act.put]
                  try simp only [List.setIfInBounds_toArray]
                  try simp only [List.set_cons_succ, List.set_cons_zero]
                  refine wpAnyH_take (i := 8) (oi := ⟨some 135, _, _, _, _, _⟩) (v := undef) rfl (by kernel_rfl) (by kernel_rfl) (by kernel_rfl) (fun _ _ _ h => h) (Or.inr ⟨by rfl, rfl⟩) (by assumption) ?_
                  try simp only [Act.put]
                  try simp only [List.setIfInBounds_toArray]
                  try simp only [List.set_cons_succ, List.set_cons_zero]
                  refine wpAnyH_take (i := 9) (oi := ⟨some 136, _, _, _, _, _⟩) (v := undef) rfl (by kernel_rfl) (by kernel_rfl) (by kernel_rfl) (fun _ _ _ h => h) (Or.inr ⟨by rfl, rfl⟩) (by assumption) ?_
                  try simp only [Act.put]
                  try simp only [List.setIfInBounds_toArray]
                  try simp only [List.set_cons_succ, List.set_cons_zero]
                  refine wpAnyH_take (i := 10) (oi := ⟨some 137, _, _, _, _, _⟩) (v := undef) rfl (by kernel_rfl) (by kernel_rfl) (by kernel_rfl) (fun _ _ _ h => h) (Or.inr ⟨by rfl, rfl⟩) (by assumption) ?_
                  try simp only [Act.put]
                  try simp only [List.setIfInBounds_toArray]
                  try simp only [List.set_cons_succ, List.set_cons_zero]
                  refine wpAnyH_take (i := 11) (oi := ⟨some 138, _, _, _, _, _⟩) (v := undef) rfl (by kernel_rfl) (by kernel_rfl) (by kernel_rfl) (fun _ _ _ h => h) (Or.inr ⟨by rfl, rfl⟩) (by assumption) ?_
                  try simp only [Act.put]
                  try simp only [List.setIfInBounds_toArray]
                  try simp only [List.set_cons_succ, List.set_cons_zero]
                  refine wpAnyH_take (i := 12) (oi := ⟨some 139, _, _, _, _, _⟩) (v := undef) rfl (by kernel_rfl) (by kernel_rfl) (by kernel_rfl) (fun _ _ _ h => h) (Or.inr ⟨by rfl, rfl⟩) (by assumption) ?_
                  try simp only [Act.put]
                  try simp only [List.setIfInBounds_toArray]
                  try simp only [List.set_cons_succ, List.set_cons_zero]
                  refine wpAnyH_take (i := 13) (oi := ⟨some 140, _, _, _, _, _⟩) (v := ?_) rfl (by kernel_rfl) (by kernel_rfl) (by kernel_rfl) (fun _ _ _ h => h) (Or.inl ⟨by rfl, ?_⟩) (by assumption) ?_; rotate_left; focus (intro w hSw; (try dsimp only at hSw); first | (go_simp; done) | (go_simp; with_reducible rfl))
                  try simp only [Act.put]
                  try simp only [List.setIfInBounds_toArray]
                  try simp only [List.set_cons_succ, List.set_cons_zero]
                  refine wpAnyH_take (i := 14) (oi := ⟨some 10, _, _, _, _, _⟩) (v := ?_) rfl (by kernel_rfl) (by kernel_rfl) (by kernel_rfl) (fun _ _ _ h => h) (Or.inl ⟨by rfl, ?_⟩) (by assumption) ?_; rotate_left; focus (intro w hSw; (try dsimp only at hSw); first | (go_simp; done) | (go_simp; with_reducible rfl))
                  try simp only [Act.put]
                  try simp only [List.setIfInBounds_toArray]
                  try simp only [List.set_cons_succ, List.set_cons_zero]
                  refine wpAnyH_done (by kernel_rfl) ?_ _
                  have hbi2 : (false = true ↔ ∀ q (e : NodeD), q < j + 1 → l[q]? = some e → e.name ≠ d.name) := by
                    constructor
                    · intro h; cases h
                    · intro h; exact hbi.out.2 fun q e hq => h q e (by omega)
                  go_wp2
                  go_roundw
                  case rel => exact ⟨j + 1, false, by omega, by go_num, rfl, Lib.hid hbi2, Lib.hid (by first | exact hb.out | exact hb.out.drew)⟩
                  case measure => simp [intOf]; omega
                · go_wp2_with fail
                  refine wp_region_held_drew (S := fun w' => w'.cell? ⟨nb, no + j * 2, none⟩ = some (.string ⟨e.name.toArray⟩) ∧ w'.cell? ⟨nb, no + k * 2, none⟩ = some (.string ⟨d.name.toArray⟩)) (by kernel_rfl) ?_ (fun hHeld => ?_)
                  · exact ⟨c0, c1⟩
                  refine wpAnyH_take (i := 0) (oi := ⟨some 127, _, _, _, _, _⟩) (v := ?_) rfl (by kernel_rfl) (by kernel_rfl) (by kernel_rfl) (fun _ _ _ h => h) (Or.inl ⟨by rfl, ?_⟩) (by assumption) ?_; rotate_left; focus (intro w hSw; (try dsimp only at hSw); first | (go_simp; done) | (go_simp; with_reducible rfl))
                  try simp only [Act.put]
                  try simp only [List.setIfInBounds_toArray]
                  try simp only [List.set_cons_succ, List.set_cons_zero]
                  refine wpAnyH_take (i := 1) (oi := ⟨some 128, _, _, _, _, _⟩) (v := ?_) rfl (by kernel_rfl) (by kernel_rfl) (by kernel_rfl) (fun _ _ _ h => h) (Or.inl ⟨by rfl, ?_⟩) (by assumption) ?_; rotate_left; focus (intro w hSw; (try dsimp only at hSw); first | (go_simp; done) | (go_simp; with_reducible rfl))
                  try simp only [Act.put]
                  try simp only [List.setIfInBounds_toArray]
                  try simp only [List.set_cons_succ, List.set_cons_zero]
                  refine wpAnyH_take (i := 2) (oi := ⟨some 129, _, _, _, _, _⟩) (v := ?_) rfl (by kernel_rfl) (by kernel_rfl) (by kernel_rfl) (fun _ _ _ h => h) (Or.inl ⟨by rfl, ?_⟩) (by assumption) ?_; rotate_left; focus (intro w hSw; (try dsimp only at hSw); first | (go_simp; done) | (go_simp; with_reducible rfl))
                  try simp only [Act.put]
                  try simp only [List.setIfInBounds_toArray]
                  try simp only [List.set_cons_succ, List.set_cons_zero]
                  refine wpAnyH_take (i := 3) (oi := ⟨some 130, _, _, _, _, _⟩) (v := ?_) rfl (by kernel_rfl) (by kernel_rfl) (by kernel_rfl) (fun _ _ _ h => h) (Or.inl ⟨by rfl, ?_⟩) (by assumption) ?_; rotate_left; focus (intro w hSw; (try dsimp only at hSw); first | (go_simp; done) | (go_simp; with_reducible rfl))
                  try simp only [Act.put]
                  try simp only [List.setIfInBounds_toArray]
                  try simp only [List.set_cons_succ, List.set_cons_zero]
                  refine wpAnyH_take (i := 4) (oi := ⟨some 131, _, _, _, _, _⟩) (v := ?_) rfl (by kernel_rfl) (by kernel_rfl) (by kernel_rfl) (fun _ _ _ h => h) (Or.inl ⟨by rfl, ?_⟩) (by assumption) ?_; rotate_left; focus (intro w hSw; (try dsimp only at hSw); first | (go_simp; done) | (go_simp; with_reducible rfl))
                  try simp only [Act.put]
                  try simp only [List.setIfInBounds_toArray]
                  try simp only [List.set_cons_succ, List.set_cons_zero]
                  refine wpAnyH_take (i := 5) (oi := ⟨some 132, _, _, _, _, _⟩) (v := ?_) rfl (by kernel_rfl) (by kernel_rfl) (by kernel_rfl) (fun _ _ _ h => h) (Or.inl ⟨by rfl, ?_⟩) (by assumption) ?_; rotate_left; focus (intro w hSw; (try dsimp only at hSw); first | (go_simp; done) | (go_simp; with_reducible rfl))
                  try simp only [Act.put]
                  try simp only [List.setIfInBounds_toArray]
                  try simp only [List.set_cons_succ, List.set_cons_zero]
                  refine wpAnyH_take (i := 6) (oi := ⟨some 133, _, _, _, _, _⟩) (v := ?_) rfl (by kernel_rfl) (by kernel_rfl) (by kernel_rfl) (fun _ _ _ h => h) (Or.inl ⟨by rfl, ?_⟩) (by assumption) ?_; rotate_left; focus (intro w hSw; (try dsimp only at hSw); first | (go_simp; done) | (go_simp; with_reducible rfl))
                  try simp only [Act.put]
                  try simp only [List.setIfInBounds_toArray]
                  try simp only [List.set_cons_succ, List.set_cons_zero]
                  refine wpAnyH_take (i := 7) (oi := ⟨some 134, _, _, _, _, _⟩) (v := ?_) rfl (by kernel_rfl) (by kernel_rfl) (by kernel_rfl) (fun _ _ _ h => h) (Or.inl ⟨by rfl, ?_⟩) (by assumption) ?_; rotate_left; focus (intro w hSw; (try dsimp only at hSw); first | (go_simp; done) | (go_simp; with_reducible rfl))
                  try simp only [Act.put]
                  try simp only [List.setIfInBounds_toArray]
                  try simp only [List.set_cons_succ, List.set_cons_zero]
                  refine wpAnyH_take (i := 8) (oi := ⟨some 135, _, _, _, _, _⟩) (v := ?_) rfl (by kernel_rfl) (by kernel_rfl) (by kernel_rfl) (fun _ _ _ h => h) (Or.inl ⟨by rfl, ?_⟩) (by assumption) ?_; rotate_left; focus (intro w hSw; (try dsimp only at hSw); first | (go_simp; done) | (go_simp; with_reducible rfl))
                  try simp only [Act.put]
                  try simp only [List.setIfInBounds_toArray]
                  try simp only [List.set_cons_succ, List.set_cons_zero]
                  refine wpAnyH_take (i := 9) (oi := ⟨some 136, _, _, _, _, _⟩) (v := ?_) rfl (by kernel_rfl) (by kernel_rfl) (by kernel_rfl) (fun _ _ _ h => h) (Or.inl ⟨by rfl, ?_⟩) (by assumption) ?_; rotate_left; focus (intro w hSw; (try dsimp only at hSw); first | (go_simp; done) | (go_simp; with_reducible rfl))
                  try simp only [Act.put]
                  try simp only [List.setIfInBounds_toArray]
                  try simp only [List.set_cons_succ, List.set_cons_zero]
                  refine wpAnyH_take (i := 10) (oi := ⟨some 137, _, _, _, _, _⟩) (v := ?_) rfl (by kernel_rfl) (by kernel_rfl) (by kernel_rfl) (fun _ _ _ h => h) (Or.inl ⟨by rfl, ?_⟩) (by assumption) ?_; rotate_left; focus (intro w hSw; (try dsimp only at hSw); first | (go_simp; done) | (go_simp; with_reducible rfl))
                  try simp only [Act.put]
                  try simp only [List.setIfInBounds_toArray]
                  try simp only [List.set_cons_succ, List.set_cons_zero]
                  refine wpAnyH_take (i := 11) (oi := ⟨some 138, _, _, _, _, _⟩) (v := ?_) rfl (by kernel_rfl) (by kernel_rfl) (by kernel_rfl) (fun _ _ _ h => h) (Or.inl ⟨by rfl, ?_⟩) (by assumption) ?_; rotate_left; focus (intro w hSw; (try dsimp only at hSw); first | (go_simp; done) | (go_simp; with_reducible rfl))
                  try simp only [Act.put]
                  try simp only [List.setIfInBounds_toArray]
                  try simp only [List.set_cons_succ, List.set_cons_zero]
                  refine wpAnyH_take (i := 12) (oi := ⟨some 139, _, _, _, _, _⟩) (v := ?_) rfl (by kernel_rfl) (by kernel_rfl) (by kernel_rfl) (fun _ _ _ h => h) (Or.inl ⟨by rfl, ?_⟩) (by assumption) ?_; rotate_left; focus (intro w hSw; (try dsimp only at hSw); first | (go_simp; done) | (go_simp; with_reducible rfl))
                  try simp only [Act.put]
                  try simp only [List.setIfInBounds_toArray]
                  try simp only [List.set_cons_succ, List.set_cons_zero]
                  refine wpAnyH_take (i := 13) (oi := ⟨some 140, _, _, _, _, _⟩) (v := ?_) rfl (by kernel_rfl) (by kernel_rfl) (by kernel_rfl) (fun _ _ _ h => h) (Or.inl ⟨by rfl, ?_⟩) (by assumption) ?_; rotate_left; focus (intro w hSw; (try dsimp only at hSw); first | (go_simp; done) | (go_simp; with_reducible rfl))
                  try simp only [Act.put]
                  try simp only [List.setIfInBounds_toArray]
                  try simp only [List.set_cons_succ, List.set_cons_zero]
                  refine wpAnyH_take (i := 14) (oi := ⟨some 10, _, _, _, _, _⟩) (v := ?_) rfl (by kernel_rfl) (by kernel_rfl) (by kernel_rfl) (fun _ _ _ h => h) (Or.inl ⟨by rfl, ?_⟩) (by assumption) ?_; rotate_left; focus (intro w hSw; (try dsimp only at hSw); first | (go_simp; done) | (go_simp; with_reducible rfl))
                  try simp only [Act.put]
                  try simp only [List.setIfInBounds_toArray]
                  try simp only [List.set_cons_succ, List.set_cons_zero]
                  refine wpAnyH_done (by kernel_rfl) ?_ _
                  have hbi2 : (decide (e.name ≠ d.name) = true ↔ ∀ q (e : NodeD), q < j + 1 → l[q]? = some e → e.name ≠ d.name) := by
                    rw [decide_eq_true_iff]
                    constructor
                    · intro h q e' hq he'
                      rcases Nat.lt_succ_iff_lt_or_eq.1 hq with hq | rfl
                      · exact hbi.out.1 (by simp) q e' hq he'
                      · have := He.out; rw [this] at he'; cases he'; exact h
                    · intro h; exact h j e (by omega) He.out
                  go_wp2
                  go_roundw
                  case rel => exact ⟨j + 1, decide (e.name ≠ d.name), by omega, by go_num, by first | rfl | (simp; done) | (by_cases q : e.name = d.name <;> simp [q]; done), Lib.hid hbi2, Lib.hid (by first | exact hb.out | exact hb.out.drew)⟩
                  case measure => simp [intOf]; omega
              · obtain rfl : j = k := by omega
                obtain ⟨nb2, no2, hab, c0, c1, -, hrc⟩ := node_at (HN4.out.ext hb.out) Hd.out
                obtain ⟨rfl, rfl⟩ : nb = nb2 ∧ no = no2 := by simpa using hab
                have Hrc := Lib.hid hrc
                have hcl := HCL.out d (List.mem_of_getElem? Hd.out)
                have Hb9 := hb
                clear hrc hb hab
                go_wp2_with fail
                go_loopw [12] (fun i wq => ∃ m : Nat, m ≤ d.calls.length ∧ i = .int .i64 m ∧ Hid (Below wr.heap.size wr wq)) (fun i _ => d.calls.length - (intOf i).toNat)
                case atStart => exact ⟨0, Nat.zero_le _, rfl, Lib.hid (Below.refl _ _)⟩
                case round =>
                  obtain ⟨m, hm, rfl, hb⟩ := hrel
                  have Hbb := Lib.hid (Hb9.out.trans (hb.out.mono Hb9.out.size))
                  obtain ⟨nb2, no2, hab, d0, d1, -, -⟩ := node_at (HN4.out.ext Hbb.out) Hd.out
                  obtain ⟨rfl, rfl⟩ : nb = nb2 ∧ no = no2 := by simpa using hab
                  clear hab c0 c1
                  by_cases hlt3 : m < d.calls.length
                  · cases b
                    · go_wp2
                      go_roundw
                      case rel => first | exact ⟨k + 1, by omega, by go_num, Hbb⟩ | exact ⟨j + 1, by omega, by go_num, Hbb⟩
                      case measure => simp [intOf]; omega
                    · obtain ⟨y, hy⟩ := get_some hlt3
                      obtain ⟨yb, yo, hya, y0⟩ := str_at (Hrc.out.ext hb.out) hy
                      have Hor := Lib.hid (order_calls HQ.out.1 HQ.out.2 Hd.out (hbi.out.1 rfl) (List.mem_of_getElem? hy))
                      clear hy
                      rw [hya] at d1
                      go_wp2_with fail
                      refine (HP4.out y _ (by first | exact Hbb.out | exact Hbb.out.drew)).mono ?_
                      rintro e w8 ⟨rfl, rfl⟩
                      have ho := Hor.out
                      have ho1 : decide (placeOf (gs.map RowD.l) d.name < 0) = false := decide_eq_false (by omega)
                      have ho2 : decide (placeOf (gs.map RowD.l) y > placeOf (gs.map RowD.l) d.name) = false := decide_eq_false (by omega)
                      go_wp2
                      go_roundw
                      case rel => exact ⟨m + 1, by omega, by go_num, Lib.hid (by first | exact hb.out | exact hb.out.drew | exact hb.out.drew.drew)⟩
                      case measure => simp [intOf]; omega
                  · obtain rfl : m = d.calls.length := by omega
                    go_wp2
                    go_roundw
                    case rel => first | exact ⟨k + 1, by omega, by go_num, Hbb⟩ | exact ⟨j + 1, by omega, by go_num, Hbb⟩
                    case measure => simp [intOf]; omega
          · obtain rfl : k = l.length := by omega
            have B1 := Hb4.out.trans (hb.out.mono Hb4.out.size)
            have HB1 := Lib.hid B1
            clear B1
            go_wp2_with fail
            refine (H8.out _).mono ?_
            rintro e w8 ⟨_, rfl, hb8, rfl⟩
            have Hb8 := Lib.hid ((by first | exact HB1.out.trans (hb8.mono HB1.out.size) | exact HB1.out.drew.trans (hb8.mono HB1.out.drew.size)) : Below w.heap.size w w8)
            clear hb8
            go_wp2
            go_ret
            exact ⟨_, rfl, Hb8.out, rfl⟩
end Go.Proofs.Ytnepamdmjppglaa
