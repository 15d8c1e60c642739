/- Are two lists of groups one: walked. -/
import Derived.Test.YtnepamdmjppglaaNodes
namespace Go.Proofs.Ytnepamdmjppglaa
open Go Go.RowKit

set_option maxHeartbeats 2000000 in
set_option maxRecDepth 20000 in
theorem same_any (a b : Option Addr) (ca cb : Nat) (la lb : List RowD) (w : World) (ha : Row w 1 a la.length (la.map RowD.val)) (hb : Row w 1 b lb.length (lb.map RowD.val)) (hra : ∀ r ∈ la, Row w 1 r.a r.l.length (r.l.map strV)) (hrb : ∀ r ∈ lb, Row w 1 r.a r.l.length (r.l.map strV))
    (hl : la.length ≤ 1048577) (_ : lb.length ≤ 1048577) (hla : ∀ r ∈ la, r.l.length ≤ 1048577) (hlb : ∀ r ∈ lb, r.l.length ≤ 1048577) :
    Calls Try.prog 16 #[.slice a la.length ca, .slice b lb.length cb] w (Ret w (IsB (la.map RowD.l = lb.map RowD.l))) := by
  have HA := Lib.hid ha
  have HB := Lib.hid hb
  have HRA := Lib.hid hra
  have HRB := Lib.hid hrb
  have HLA := Lib.hid hla
  have HLB := Lib.hid hlb
  clear ha hb hra hrb hla hlb
  go_enter Try.func16, Try.ntmps16
  by_cases hn : la.length = lb.length
  · have hn2 : ((la.length : Int) != lb.length) = false := by simp [hn]
    have Hn := Lib.hid hn
    go_wp2_with fail
    go_loopw [5] (fun i wq => ∃ k : Nat, k ≤ la.length ∧ i = .int .i64 k ∧ Hid (Below w.heap.size w wq ∧ ∀ j, j < k → (la.map RowD.l)[j]? = (lb.map RowD.l)[j]?)) (fun i _ => la.length - (intOf i).toNat)
    case atStart => exact ⟨0, Nat.zero_le _, rfl, Below.refl _ _, fun j h => by omega⟩
    case round =>
      obtain ⟨k, hk, rfl, hq⟩ := hrel
      by_cases hlt : k < la.length
      · obtain ⟨x, hx⟩ := get_some hlt
        obtain ⟨y, hy⟩ := get_some (l := lb) (i := k) (by omega)
        obtain ⟨ab, ao, rfl, v1⟩ := (HA.out.ext hq.out.1).elem1 hx
        obtain ⟨bb, bo, rfl, v2⟩ := (HB.out.ext hq.out.1).elem1 hy
        have hxm := List.mem_of_getElem? hx
        have hym := List.mem_of_getElem? hy
        have hst := strings_any x.a y.a x.c y.c x.l y.l wr.drew ((HRA.out x hxm).ext hq.out.1.drew) ((HRB.out y hym).ext hq.out.1.drew) (by have := HLA.out x hxm; omega)
        have Hst := Lib.hid hst
        have Hx : Hid ((la.map RowD.l)[k]? = some x.l ∧ (lb.map RowD.l)[k]? = some y.l) := Lib.hid (by rw [List.getElem?_map, List.getElem?_map, hx, hy]; exact ⟨rfl, rfl⟩)
        have hkl2 : k < lb.length := by omega
        have u1 : wr.cell? ⟨ab, ao + k, none⟩ = some (.slice x.a x.l.length x.c) := v1
        have u2 : wr.cell? ⟨bb, bo + k, none⟩ = some (.slice y.a y.l.length y.c) := v2
        clear hx hy v1 v2 hst hxm hym hn
        go_wp2_with fail
        refine wp_region_held_drew (S := fun w' => w'.cell? ⟨ab, ao + k, none⟩ = some (.slice x.a x.l.length x.c) ∧ w'.cell? ⟨bb, bo + k, none⟩ = some (.slice y.a y.l.length y.c)) (by kernel_rfl) ?_ (fun hHeld => ?_)
        · exact ⟨u1, u2⟩
        refine wpAnyH_take (i := 0) (oi := ⟨some 17, _, _, _, _, _⟩) (v := ?_) rfl (by kernel_rfl) (by kernel_rfl) (by kernel_rfl) (fun _ _ _ h => h) (Or.inl ⟨by rfl, ?_⟩) (by assumption) ?_; rotate_left; focus (intro w hSw; (try dsimp only at hSw); first | (go_simp; done) | (go_simp; with_reducible rfl))
        try simp only [Act.put]
        try simp only [List.setIfInBounds_toArray]
        try simp only [List.set_cons_succ, List.set_cons_zero]
        refine wpAnyH_take (i := 1) (oi := ⟨some 18, _, _, _, _, _⟩) (v := ?_) rfl (by kernel_rfl) (by kernel_rfl) (by kernel_rfl) (fun _ _ _ h => h) (Or.inl ⟨by rfl, ?_⟩) (by assumption) ?_; rotate_left; focus (intro w hSw; (try dsimp only at hSw); first | (go_simp; done) | (go_simp; with_reducible rfl))
        try simp only [Act.put]
        try simp only [List.setIfInBounds_toArray]
        try simp only [List.set_cons_succ, List.set_cons_zero]
        refine wpAnyH_take (i := 2) (oi := ⟨some 19, _, _, _, _, _⟩) (v := ?_) rfl (by kernel_rfl) (by kernel_rfl) (by kernel_rfl) (fun _ _ _ h => h) (Or.inl ⟨by rfl, ?_⟩) (by assumption) ?_; rotate_left; focus (intro w hSw; (try dsimp only at hSw); first | (go_simp; done) | (go_simp; with_reducible rfl))
        try simp only [Act.put]
        try simp only [List.setIfInBounds_toArray]
        try simp only [List.set_cons_succ, List.set_cons_zero]
        refine wpAnyH_take (i := 3) (oi := ⟨some 20, _, _, _, _, _⟩) (v := ?_) rfl (by kernel_rfl) (by kernel_rfl) (by kernel_rfl) (fun _ _ _ h => h) (Or.inl ⟨by rfl, ?_⟩) (by assumption) ?_; rotate_left; focus (intro w hSw; (try dsimp only at hSw); first | (go_simp; done) | (go_simp; with_reducible rfl))
        try simp only [Act.put]
        try simp only [List.setIfInBounds_toArray]
        try simp only [List.set_cons_succ, List.set_cons_zero]
        refine wpAnyH_take (i := 4) (oi := ⟨some 21, _, _, _, _, _⟩) (v := ?_) rfl (by kernel_rfl) (by kernel_rfl) (by kernel_rfl) (fun _ _ _ h => h) (Or.inl ⟨by rfl, ?_⟩) (by assumption) ?_; rotate_left; focus (intro w hSw; (try dsimp only at hSw); first | (go_simp; done) | (go_simp; with_reducible rfl))
        try simp only [Act.put]
        try simp only [List.setIfInBounds_toArray]
        try simp only [List.set_cons_succ, List.set_cons_zero]
        refine wpAnyH_take (i := 5) (oi := ⟨some 22, _, _, _, _, _⟩) (v := ?_) rfl (by kernel_rfl) (by kernel_rfl) (by kernel_rfl) (fun _ _ _ h => h) (Or.inl ⟨by rfl, ?_⟩) (by assumption) ?_; rotate_left; focus (intro w hSw; (try dsimp only at hSw); first | (go_simp; done) | (go_simp; with_reducible rfl))
        try simp only [Act.put]
        try simp only [List.setIfInBounds_toArray]
        try simp only [List.set_cons_succ, List.set_cons_zero]
        refine wpAnyH_take (i := 6) (oi := ⟨some 23, _, _, _, _, _⟩) (v := ?_) rfl (by kernel_rfl) (by kernel_rfl) (by kernel_rfl) (fun _ _ _ h => h) (Or.inl ⟨by rfl, ?_⟩) (by assumption) ?_; rotate_left; focus (intro w hSw; (try dsimp only at hSw); first | (go_simp; done) | (go_simp; with_reducible rfl))
        try simp only [Act.put]
        try simp only [List.setIfInBounds_toArray]
        try simp only [List.set_cons_succ, List.set_cons_zero]
        refine wpAnyH_take (i := 7) (oi := ⟨some 24, _, _, _, _, _⟩) (v := ?_) rfl (by kernel_rfl) (by kernel_rfl) (by kernel_rfl) (fun _ _ _ h => h) (Or.inl ⟨by rfl, ?_⟩) (by assumption) ?_; rotate_left; focus (intro w hSw; (try dsimp only at hSw); first | (go_simp; done) | (go_simp; with_reducible rfl))
        try simp only [Act.put]
        try simp only [List.setIfInBounds_toArray]
        try simp only [List.set_cons_succ, List.set_cons_zero]
        refine wpAnyH_ready (rs := [8]) (by kernel_rfl) (by simp) ?_
        refine AllReadyH.cons (i := 8) (o := ⟨some 25, _, _, _, _, _⟩) rfl (fun K hK => ?_) ?_
        · go_simp
          refine Hst.out.mono ?_
          rintro e w5 ⟨_, rfl, hb5, b5, rfl, hb5i⟩
          have y1 := below_ext hb5 (by exact u1)
          have y2 := below_ext hb5 (by exact u2)
          have H5 := Lib.hid (And.intro (hq.out.1.drew.trans (hb5.mono hq.out.1.drew.size)) hb5i)
          clear hb5 hb5i
          refine hK.out _ _ ?_ (fun hHeld => ?_)
          · exact ⟨y1, y2⟩
          try simp only [Act.put]
          try simp only [List.setIfInBounds_toArray]
          try simp only [List.set_cons_succ, List.set_cons_zero]
          refine wpAnyH_take (i := 9) (oi := ⟨some 26, _, _, _, _, _⟩) (v := ?_) rfl (by kernel_rfl) (by kernel_rfl) (by kernel_rfl) (fun _ _ _ h => h) (Or.inl ⟨by rfl, ?_⟩) (by assumption) ?_; rotate_left; focus (intro w hSw; (try dsimp only at hSw); first | (go_simp; done) | (go_simp; with_reducible rfl))
          try simp only [Act.put]
          try simp only [List.setIfInBounds_toArray]
          try simp only [List.set_cons_succ, List.set_cons_zero]
          refine wpAnyH_done (by kernel_rfl) ?_ _
          clear hHeld y1 y2 u1 u2 Hst
          cases b5
          · go_wp2
            go_ret
            exact ⟨_, rfl, H5.out.1, isB_false fun h => absurd (H5.out.2.2 (by have h1 := Hx.out.1; rw [h, Hx.out.2] at h1; exact (Option.some.inj h1).symm)) (by simp)⟩
          · go_wp2
            go_roundw
            case rel =>
              refine ⟨k + 1, by omega, by go_num, H5.out.1, fun j hj => ?_⟩
              rcases Nat.lt_or_ge j k with h | h
              · exact hq.out.2 j h
              · obtain rfl : j = k := by omega
                rw [Hx.out.1, Hx.out.2, H5.out.2.1 rfl]
            case measure => simp [intOf]; omega
        exact AllReadyH.nil
      · obtain rfl : k = la.length := by omega
        go_wp2
        go_ret
        exact ⟨_, rfl, hq.out.1, isB_true (List.ext_getElem? fun i => by
          rcases Nat.lt_or_ge i la.length with h | h
          · exact hq.out.2 i h
          · rw [List.getElem?_eq_none (by simpa using h), List.getElem?_eq_none (by have := Hn.out; simp; omega)])⟩
  · have hn2 : ((la.length : Int) != lb.length) = true := by simp; omega
    have Hn := Lib.hid hn
    clear hn
    go_wp2
    go_ret
    exact ⟨_, rfl, Below.refl _ _, isB_false fun h => Hn.out (by have := congrArg List.length h; simpa using this)⟩
end Go.Proofs.Ytnepamdmjppglaa
