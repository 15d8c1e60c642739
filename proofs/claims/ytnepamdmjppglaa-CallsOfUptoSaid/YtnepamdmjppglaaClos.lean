/- The closures of Groups, walked: whether a group calls none that is not told; two groups compared. -/
import Derived.Test.YtnepamdmjppglaaVisit
import Derived.Test.YtnepamdmjppglaaCmp
namespace Go.Proofs.Ytnepamdmjppglaa
open Go Go.RowKit

/-- what the closures of Groups see -/
structure Env (F : FC) (v : FV) (w : World) (s : TSt Nm) (pf pt tb tc : Nat) (td : List Nat) : Prop where
  fin : FSt F v w s
  inv : TInv (outs F.E) s []
  bf : Blk w pf #[.pointer (some ⟨F.fb, 0, none⟩)] 60
  bt : Blk w pt #[.slice (some ⟨tb, 0, none⟩) td.length tc] 68
  tr : Own w F.W.heap.size 3 1 (some ⟨tb, 0, none⟩) td.length tc (td.map intV)
  tl : td.length = v.all.length + 1
  al : v.all.length ≤ 1048576
theorem Env.ext {F : FC} {v : FV} {w w' : World} {s : TSt Nm} {pf pt tb tc : Nat} {td : List Nat} (h : Env F v w s pf pt tb tc td) (hb : Below w.heap.size w w') : Env F v w' s pf pt tb tc td :=
  ⟨h.fin.ext hb, h.inv, h.bf.ext hb, h.bt.ext hb, h.tr.ext hb, h.tl, h.al⟩
theorem Env.drew {F : FC} {v : FV} {w : World} {s : TSt Nm} {pf pt tb tc : Nat} {td : List Nat} (h : Env F v w s pf pt tb tc td) : Env F v w.drew s pf pt tb tc td := h.ext ((Below.refl _ _).drew)

/-- c calls for nothing that is told, and is of another group -/
def open_ (s : TSt Nm) (td : List Nat) (i : Nat) (c : Nm) : Bool := decide (s.grp c ≠ i + 1) && decide (td[s.grp c]? = some 0)

set_option maxHeartbeats 1000000 in
set_option maxRecDepth 20000 in
theorem open_any (F : FC) (v : FV) (s : TSt Nm) (pf pt pi tb tc : Nat) (td : List Nat) (i : Nat) (c : Nm) (w : World) (he : Env F v w s pf pt tb tc td) (hi : i ≤ 1048576) (hpi : Blk w pi #[.int .i64 i] 3) (hc : c.length ≤ maxLen) :
    Calls Try.prog 37 #[.string ⟨c.toArray⟩, .pointer (some ⟨pf, 0, none⟩), .pointer (some ⟨pi, 0, none⟩), .pointer (some ⟨pt, 0, none⟩)] w fun e w' => e = .returned (.bool (open_ s td i c)) ∧ Below w.heap.size w w' := by
  have HE := Lib.hid he
  have d0 : w.cell? ⟨pf, 0, none⟩ = some (.pointer (some ⟨F.fb, 0, none⟩)) := he.bf.cell 0
  have d1 : w.cell? ⟨pi, 0, none⟩ = some (.int .i64 (i : Nat)) := hpi.cell 0
  have d2 : w.cell? ⟨pt, 0, none⟩ = some (.slice (some ⟨tb, 0, none⟩) td.length tc) := he.bt.cell 0
  have d3 : w.cell? ⟨F.fb, 4, none⟩ = some (.map (some F.gm)) := he.fin.core.blk.cell 4
  have hnum := he.inv.num c
  have hsa : s.all.length = v.all.length := by rw [he.fin.sall, List.length_map]
  have htl := he.tl
  have hgl : s.grp c < td.length := by omega
  have hgb : s.grp c ≤ 1048576 := by have := he.al; omega
  obtain ⟨tv, htv⟩ := get_some hgl
  have d4 : w.cell? ⟨tb, s.grp c, none⟩ = some (.int .i64 (tv : Nat)) := by
    have := (he.tr.at0 (j := s.grp c) hgl).1
    have h2 := (he.tr.at0 (j := s.grp c) hgl).2.1
    rw [List.getElem?_map, htv] at h2
    first | (rw [this]; simpa using h2) | (rw [h2]; rfl) | simpa [htv] using h2
  have Htv := Lib.hid htv
  have hcl := he.tr.le
  have fw : IntKind.i64.wrap ((i : Int) + 1) = (i : Int) + 1 := IntWalk.i64_in _ (by omega)
  have Hc := Lib.hid hc
  clear he hpi hnum hsa htl htv hc
  go_enter Try.func37, Try.ntmps37
  by_cases hg : s.grp c = i + 1
  · have fg : ((s.grp c : Int) != (i : Int) + 1) = false := by simp; omega
    have Hop : Hid (open_ s td i c = false) := Lib.hid (by simp [open_, hg])
    have Hg := Lib.hid hg
    clear hg
    go_wp2_with fail
    refine wp_region_held_drew (S := fun w' => w'.cell? ⟨pf, 0, none⟩ = some (.pointer (some ⟨F.fb, 0, none⟩)) ∧ w'.cell? ⟨pi, 0, none⟩ = some (.int .i64 (i : Nat)) ∧ w'.cell? ⟨pt, 0, none⟩ = some (.slice (some ⟨tb, 0, none⟩) td.length tc) ∧ w'.cell? ⟨F.fb, 4, none⟩ = some (.map (some F.gm)) ∧ w'.cell? ⟨tb, s.grp c, none⟩ = some (.int .i64 (tv : Nat)) ∧ Hid (IM w' F.gm v.gks s.grp)) (by kernel_rfl) ?_ (fun hHeld => ?_)
    · exact ⟨d0, d1, d2, d3, d4, HE.out.drew.fin.grp⟩
    refine wpAnyH_take (i := 0) (oi := ⟨some 6, _, _, _, _, _⟩) (v := ?_) rfl (by kernel_rfl) (by kernel_rfl) (by kernel_rfl) (fun _ _ _ h => h) (Or.inl ⟨by rfl, ?_⟩) (by assumption) ?_; rotate_left; focus (intro w hSw; (try dsimp only at hSw); first | (go_simp; done) | (go_simp; with_reducible rfl))
    try simp only [Act.put]
    try simp only [List.setIfInBounds_toArray]
    try simp only [List.set_cons_succ, List.set_cons_zero]
    refine wpAnyH_take (i := 1) (oi := ⟨some 7, _, _, _, _, _⟩) (v := ?_) rfl (by kernel_rfl) (by kernel_rfl) (by kernel_rfl) (fun _ _ _ h => h) (Or.inl ⟨by rfl, ?_⟩) (by assumption) ?_; rotate_left; focus (intro w hSw; (try dsimp only at hSw); first | (go_simp; done) | (go_simp; with_reducible rfl))
    try simp only [Act.put]
    try simp only [List.setIfInBounds_toArray]
    try simp only [List.set_cons_succ, List.set_cons_zero]
    refine wpAnyH_take (i := 2) (oi := ⟨some 8, _, _, _, _, _⟩) (v := ?_) rfl (by kernel_rfl) (by kernel_rfl) (by kernel_rfl) (fun _ _ _ h => h) (Or.inl ⟨by rfl, ?_⟩) (by assumption) ?_; rotate_left; focus (intro w hSw; (try dsimp only at hSw); first | (go_simp; done) | (go_simp; with_reducible rfl))
    try simp only [Act.put]
    try simp only [List.setIfInBounds_toArray]
    try simp only [List.set_cons_succ, List.set_cons_zero]
    refine wpAnyH_take (i := 3) (oi := ⟨some 9, _, _, _, _, _⟩) (v := ?_) rfl (by kernel_rfl) (by kernel_rfl) (by kernel_rfl) (fun _ _ _ h => h) (Or.inl ⟨by rfl, ?_⟩) (by assumption) ?_; rotate_left; focus (intro w hSw; (try dsimp only at hSw); first | (go_simp; done) | (go_simp; with_reducible rfl))
    try simp only [Act.put]
    try simp only [List.setIfInBounds_toArray]
    try simp only [List.set_cons_succ, List.set_cons_zero]
    refine wpAnyH_take (i := 4) (oi := ⟨some 10, _, _, _, _, _⟩) (v := ?_) rfl (by kernel_rfl) (by kernel_rfl) (by kernel_rfl) (fun _ _ _ h => h) (Or.inl ⟨by rfl, ?_⟩) (by assumption) ?_; rotate_left; focus (intro w hSw; (try dsimp only at hSw); first | (go_simp; done) | (go_simp; with_reducible rfl))
    try simp only [Act.put]
    try simp only [List.setIfInBounds_toArray]
    try simp only [List.set_cons_succ, List.set_cons_zero]
    refine wpAnyH_take (i := 5) (oi := ⟨some 11, _, _, _, _, _⟩) (v := ?_) rfl (by kernel_rfl) (by kernel_rfl) (by kernel_rfl) (fun _ _ _ h => h) (Or.inl ⟨by rfl, ?_⟩) (by assumption) ?_; rotate_left; focus (intro w hSw; (try dsimp only at hSw); refine Eq.trans (take_lookI (.tmp 9) (.tmp 10) (by rfl) hSw.2.2.2.2.2.out Hc.out (by simp [go_sem]) (by simp [go_sem]) (s.grp c) rfl) ?_; with_reducible rfl)
    try simp only [Act.put]
    try simp only [List.setIfInBounds_toArray]
    try simp only [List.set_cons_succ, List.set_cons_zero]
    refine wpAnyH_take (i := 6) (oi := ⟨some 12, _, _, _, _, _⟩) (v := ?_) rfl (by kernel_rfl) (by kernel_rfl) (by kernel_rfl) (fun _ _ _ h => h) (Or.inl ⟨by rfl, ?_⟩) (by assumption) ?_; rotate_left; focus (intro w hSw; (try dsimp only at hSw); first | (go_simp; done) | (go_simp; with_reducible rfl))
    try simp only [Act.put]
    try simp only [List.setIfInBounds_toArray]
    try simp only [List.set_cons_succ, List.set_cons_zero]
    refine wpAnyH_take (i := 7) (oi := ⟨some 13, _, _, _, _, _⟩) (v := ?_) rfl (by kernel_rfl) (by kernel_rfl) (by kernel_rfl) (fun _ _ _ h => h) (Or.inl ⟨by rfl, ?_⟩) (by assumption) ?_; rotate_left; focus (intro w hSw; (try dsimp only at hSw); first | (go_simp; done) | (go_simp; with_reducible rfl))
    try simp only [Act.put]
    try simp only [List.setIfInBounds_toArray]
    try simp only [List.set_cons_succ, List.set_cons_zero]
    refine wpAnyH_take (i := 8) (oi := ⟨some 14, _, _, _, _, _⟩) (v := ?_) rfl (by kernel_rfl) (by kernel_rfl) (by kernel_rfl) (fun _ _ _ h => h) (Or.inl ⟨by rfl, ?_⟩) (by assumption) ?_; rotate_left; focus (intro w hSw; (try dsimp only at hSw); first | (go_simp; done) | (go_simp; with_reducible rfl))
    try simp only [Act.put]
    try simp only [List.setIfInBounds_toArray]
    try simp only [List.set_cons_succ, List.set_cons_zero]
    refine wpAnyH_take (i := 9) (oi := ⟨some 15, _, _, _, _, _⟩) (v := ?_) rfl (by kernel_rfl) (by kernel_rfl) (by kernel_rfl) (fun _ _ _ h => h) (Or.inl ⟨by rfl, ?_⟩) (by assumption) ?_; rotate_left; focus (intro w hSw; (try dsimp only at hSw); first | (go_simp; done) | (go_simp; with_reducible rfl))
    try simp only [Act.put]
    try simp only [List.setIfInBounds_toArray]
    try simp only [List.set_cons_succ, List.set_cons_zero]
    refine wpAnyH_take (i := 10) (oi := ⟨some 16, _, _, _, _, _⟩) (v := undef) rfl (by kernel_rfl) (by kernel_rfl) (by kernel_rfl) (fun _ _ _ h => h) (Or.inr ⟨by rfl, rfl⟩) (by assumption) ?_
    try simp only [Act.put]
    try simp only [List.setIfInBounds_toArray]
    try simp only [List.set_cons_succ, List.set_cons_zero]
    refine wpAnyH_take (i := 11) (oi := ⟨some 17, _, _, _, _, _⟩) (v := undef) rfl (by kernel_rfl) (by kernel_rfl) (by kernel_rfl) (fun _ _ _ h => h) (Or.inr ⟨by rfl, rfl⟩) (by assumption) ?_
    try simp only [Act.put]
    try simp only [List.setIfInBounds_toArray]
    try simp only [List.set_cons_succ, List.set_cons_zero]
    refine wpAnyH_take (i := 12) (oi := ⟨some 18, _, _, _, _, _⟩) (v := undef) rfl (by kernel_rfl) (by kernel_rfl) (by kernel_rfl) (fun _ _ _ h => h) (Or.inr ⟨by rfl, rfl⟩) (by assumption) ?_
    try simp only [Act.put]
    try simp only [List.setIfInBounds_toArray]
    try simp only [List.set_cons_succ, List.set_cons_zero]
    refine wpAnyH_take (i := 13) (oi := ⟨some 19, _, _, _, _, _⟩) (v := undef) rfl (by kernel_rfl) (by kernel_rfl) (by kernel_rfl) (fun _ _ _ h => h) (Or.inr ⟨by rfl, rfl⟩) (by assumption) ?_
    try simp only [Act.put]
    try simp only [List.setIfInBounds_toArray]
    try simp only [List.set_cons_succ, List.set_cons_zero]
    refine wpAnyH_take (i := 14) (oi := ⟨some 20, _, _, _, _, _⟩) (v := undef) rfl (by kernel_rfl) (by kernel_rfl) (by kernel_rfl) (fun _ _ _ h => h) (Or.inr ⟨by rfl, rfl⟩) (by assumption) ?_
    try simp only [Act.put]
    try simp only [List.setIfInBounds_toArray]
    try simp only [List.set_cons_succ, List.set_cons_zero]
    refine wpAnyH_take (i := 15) (oi := ⟨some 21, _, _, _, _, _⟩) (v := undef) rfl (by kernel_rfl) (by kernel_rfl) (by kernel_rfl) (fun _ _ _ h => h) (Or.inr ⟨by rfl, rfl⟩) (by assumption) ?_
    try simp only [Act.put]
    try simp only [List.setIfInBounds_toArray]
    try simp only [List.set_cons_succ, List.set_cons_zero]
    refine wpAnyH_take (i := 16) (oi := ⟨some 22, _, _, _, _, _⟩) (v := undef) rfl (by kernel_rfl) (by kernel_rfl) (by kernel_rfl) (fun _ _ _ h => h) (Or.inr ⟨by rfl, rfl⟩) (by assumption) ?_
    try simp only [Act.put]
    try simp only [List.setIfInBounds_toArray]
    try simp only [List.set_cons_succ, List.set_cons_zero]
    refine wpAnyH_take (i := 17) (oi := ⟨some 23, _, _, _, _, _⟩) (v := undef) rfl (by kernel_rfl) (by kernel_rfl) (by kernel_rfl) (fun _ _ _ h => h) (Or.inr ⟨by rfl, rfl⟩) (by assumption) ?_
    try simp only [Act.put]
    try simp only [List.setIfInBounds_toArray]
    try simp only [List.set_cons_succ, List.set_cons_zero]
    refine wpAnyH_take (i := 18) (oi := ⟨some 24, _, _, _, _, _⟩) (v := undef) rfl (by kernel_rfl) (by kernel_rfl) (by kernel_rfl) (fun _ _ _ h => h) (Or.inr ⟨by rfl, rfl⟩) (by assumption) ?_
    try simp only [Act.put]
    try simp only [List.setIfInBounds_toArray]
    try simp only [List.set_cons_succ, List.set_cons_zero]
    refine wpAnyH_take (i := 19) (oi := ⟨some 25, _, _, _, _, _⟩) (v := undef) rfl (by kernel_rfl) (by kernel_rfl) (by kernel_rfl) (fun _ _ _ h => h) (Or.inr ⟨by rfl, rfl⟩) (by assumption) ?_
    try simp only [Act.put]
    try simp only [List.setIfInBounds_toArray]
    try simp only [List.set_cons_succ, List.set_cons_zero]
    refine wpAnyH_take (i := 20) (oi := ⟨some 26, _, _, _, _, _⟩) (v := ?_) rfl (by kernel_rfl) (by kernel_rfl) (by kernel_rfl) (fun _ _ _ h => h) (Or.inl ⟨by rfl, ?_⟩) (by assumption) ?_; rotate_left; focus (intro w hSw; (try dsimp only at hSw); first | (go_simp; done) | (go_simp; with_reducible rfl))
    try simp only [Act.put]
    try simp only [List.setIfInBounds_toArray]
    try simp only [List.set_cons_succ, List.set_cons_zero]
    refine wpAnyH_take (i := 21) (oi := ⟨some 5, _, _, _, _, _⟩) (v := ?_) rfl (by kernel_rfl) (by kernel_rfl) (by kernel_rfl) (fun _ _ _ h => h) (Or.inl ⟨by rfl, ?_⟩) (by assumption) ?_; rotate_left; focus (intro w hSw; (try dsimp only at hSw); first | (go_simp; done) | (go_simp; with_reducible rfl))
    try simp only [Act.put]
    try simp only [List.setIfInBounds_toArray]
    try simp only [List.set_cons_succ, List.set_cons_zero]
    refine wpAnyH_done (by kernel_rfl) ?_ _
    clear hHeld
    go_wp2
    go_ret
    exact ⟨by rw [Hop.out]; rfl, (Below.refl _ _).drew⟩
  · have fg : ((s.grp c : Int) != (i : Int) + 1) = true := by simp; omega
    by_cases h0 : tv = 0
    · have Hop : Hid (open_ s td i c = true) := Lib.hid (by simp [open_, hg, Htv.out, h0])
      have f0 : ((tv : Int) == 0) = true := by simp [h0]
      have Hg := Lib.hid hg
      clear hg h0
      go_wp2_with fail
      refine wp_region_held_drew (S := fun w' => w'.cell? ⟨pf, 0, none⟩ = some (.pointer (some ⟨F.fb, 0, none⟩)) ∧ w'.cell? ⟨pi, 0, none⟩ = some (.int .i64 (i : Nat)) ∧ w'.cell? ⟨pt, 0, none⟩ = some (.slice (some ⟨tb, 0, none⟩) td.length tc) ∧ w'.cell? ⟨F.fb, 4, none⟩ = some (.map (some F.gm)) ∧ w'.cell? ⟨tb, s.grp c, none⟩ = some (.int .i64 (tv : Nat)) ∧ Hid (IM w' F.gm v.gks s.grp)) (by kernel_rfl) ?_ (fun hHeld => ?_)
      · exact ⟨d0, d1, d2, d3, d4, HE.out.drew.fin.grp⟩
      refine wpAnyH_take (i := 0) (oi := ⟨some 6, _, _, _, _, _⟩) (v := ?_) rfl (by kernel_rfl) (by kernel_rfl) (by kernel_rfl) (fun _ _ _ h => h) (Or.inl ⟨by rfl, ?_⟩) (by assumption) ?_; rotate_left; focus (intro w hSw; (try dsimp only at hSw); first | (go_simp; done) | (go_simp; with_reducible rfl))
      try simp only [Act.put]
      try simp only [List.setIfInBounds_toArray]
      try simp only [List.set_cons_succ, List.set_cons_zero]
      refine wpAnyH_take (i := 1) (oi := ⟨some 7, _, _, _, _, _⟩) (v := ?_) rfl (by kernel_rfl) (by kernel_rfl) (by kernel_rfl) (fun _ _ _ h => h) (Or.inl ⟨by rfl, ?_⟩) (by assumption) ?_; rotate_left; focus (intro w hSw; (try dsimp only at hSw); first | (go_simp; done) | (go_simp; with_reducible rfl))
      try simp only [Act.put]
      try simp only [List.setIfInBounds_toArray]
      try simp only [List.set_cons_succ, List.set_cons_zero]
      refine wpAnyH_take (i := 2) (oi := ⟨some 8, _, _, _, _, _⟩) (v := ?_) rfl (by kernel_rfl) (by kernel_rfl) (by kernel_rfl) (fun _ _ _ h => h) (Or.inl ⟨by rfl, ?_⟩) (by assumption) ?_; rotate_left; focus (intro w hSw; (try dsimp only at hSw); first | (go_simp; done) | (go_simp; with_reducible rfl))
      try simp only [Act.put]
      try simp only [List.setIfInBounds_toArray]
      try simp only [List.set_cons_succ, List.set_cons_zero]
      refine wpAnyH_take (i := 3) (oi := ⟨some 9, _, _, _, _, _⟩) (v := ?_) rfl (by kernel_rfl) (by kernel_rfl) (by kernel_rfl) (fun _ _ _ h => h) (Or.inl ⟨by rfl, ?_⟩) (by assumption) ?_; rotate_left; focus (intro w hSw; (try dsimp only at hSw); first | (go_simp; done) | (go_simp; with_reducible rfl))
      try simp only [Act.put]
      try simp only [List.setIfInBounds_toArray]
      try simp only [List.set_cons_succ, List.set_cons_zero]
      refine wpAnyH_take (i := 4) (oi := ⟨some 10, _, _, _, _, _⟩) (v := ?_) rfl (by kernel_rfl) (by kernel_rfl) (by kernel_rfl) (fun _ _ _ h => h) (Or.inl ⟨by rfl, ?_⟩) (by assumption) ?_; rotate_left; focus (intro w hSw; (try dsimp only at hSw); first | (go_simp; done) | (go_simp; with_reducible rfl))
      try simp only [Act.put]
      try simp only [List.setIfInBounds_toArray]
      try simp only [List.set_cons_succ, List.set_cons_zero]
      refine wpAnyH_take (i := 5) (oi := ⟨some 11, _, _, _, _, _⟩) (v := ?_) rfl (by kernel_rfl) (by kernel_rfl) (by kernel_rfl) (fun _ _ _ h => h) (Or.inl ⟨by rfl, ?_⟩) (by assumption) ?_; rotate_left; focus (intro w hSw; (try dsimp only at hSw); refine Eq.trans (take_lookI (.tmp 9) (.tmp 10) (by rfl) hSw.2.2.2.2.2.out Hc.out (by simp [go_sem]) (by simp [go_sem]) (s.grp c) rfl) ?_; with_reducible rfl)
      try simp only [Act.put]
      try simp only [List.setIfInBounds_toArray]
      try simp only [List.set_cons_succ, List.set_cons_zero]
      refine wpAnyH_take (i := 6) (oi := ⟨some 12, _, _, _, _, _⟩) (v := ?_) rfl (by kernel_rfl) (by kernel_rfl) (by kernel_rfl) (fun _ _ _ h => h) (Or.inl ⟨by rfl, ?_⟩) (by assumption) ?_; rotate_left; focus (intro w hSw; (try dsimp only at hSw); first | (go_simp; done) | (go_simp; with_reducible rfl))
      try simp only [Act.put]
      try simp only [List.setIfInBounds_toArray]
      try simp only [List.set_cons_succ, List.set_cons_zero]
      refine wpAnyH_take (i := 7) (oi := ⟨some 13, _, _, _, _, _⟩) (v := ?_) rfl (by kernel_rfl) (by kernel_rfl) (by kernel_rfl) (fun _ _ _ h => h) (Or.inl ⟨by rfl, ?_⟩) (by assumption) ?_; rotate_left; focus (intro w hSw; (try dsimp only at hSw); first | (go_simp; done) | (go_simp; with_reducible rfl))
      try simp only [Act.put]
      try simp only [List.setIfInBounds_toArray]
      try simp only [List.set_cons_succ, List.set_cons_zero]
      refine wpAnyH_take (i := 8) (oi := ⟨some 14, _, _, _, _, _⟩) (v := ?_) rfl (by kernel_rfl) (by kernel_rfl) (by kernel_rfl) (fun _ _ _ h => h) (Or.inl ⟨by rfl, ?_⟩) (by assumption) ?_; rotate_left; focus (intro w hSw; (try dsimp only at hSw); first | (go_simp; done) | (go_simp; with_reducible rfl))
      try simp only [Act.put]
      try simp only [List.setIfInBounds_toArray]
      try simp only [List.set_cons_succ, List.set_cons_zero]
      refine wpAnyH_take (i := 9) (oi := ⟨some 15, _, _, _, _, _⟩) (v := ?_) rfl (by kernel_rfl) (by kernel_rfl) (by kernel_rfl) (fun _ _ _ h => h) (Or.inl ⟨by rfl, ?_⟩) (by assumption) ?_; rotate_left; focus (intro w hSw; (try dsimp only at hSw); first | (go_simp; done) | (go_simp; with_reducible rfl))
      try simp only [Act.put]
      try simp only [List.setIfInBounds_toArray]
      try simp only [List.set_cons_succ, List.set_cons_zero]
      refine wpAnyH_take (i := 10) (oi := ⟨some 16, _, _, _, _, _⟩) (v := ?_) rfl (by kernel_rfl) (by kernel_rfl) (by kernel_rfl) (fun _ _ _ h => h) (Or.inl ⟨by rfl, ?_⟩) (by assumption) ?_; rotate_left; focus (intro w hSw; (try dsimp only at hSw); first | (go_simp; done) | (go_simp; with_reducible rfl))
      try simp only [Act.put]
      try simp only [List.setIfInBounds_toArray]
      try simp only [List.set_cons_succ, List.set_cons_zero]
      refine wpAnyH_take (i := 11) (oi := ⟨some 17, _, _, _, _, _⟩) (v := ?_) rfl (by kernel_rfl) (by kernel_rfl) (by kernel_rfl) (fun _ _ _ h => h) (Or.inl ⟨by rfl, ?_⟩) (by assumption) ?_; rotate_left; focus (intro w hSw; (try dsimp only at hSw); first | (go_simp; done) | (go_simp; with_reducible rfl))
      try simp only [Act.put]
      try simp only [List.setIfInBounds_toArray]
      try simp only [List.set_cons_succ, List.set_cons_zero]
      refine wpAnyH_take (i := 12) (oi := ⟨some 18, _, _, _, _, _⟩) (v := ?_) rfl (by kernel_rfl) (by kernel_rfl) (by kernel_rfl) (fun _ _ _ h => h) (Or.inl ⟨by rfl, ?_⟩) (by assumption) ?_; rotate_left; focus (intro w hSw; (try dsimp only at hSw); first | (go_simp; done) | (go_simp; with_reducible rfl))
      try simp only [Act.put]
      try simp only [List.setIfInBounds_toArray]
      try simp only [List.set_cons_succ, List.set_cons_zero]
      refine wpAnyH_take (i := 13) (oi := ⟨some 19, _, _, _, _, _⟩) (v := ?_) rfl (by kernel_rfl) (by kernel_rfl) (by kernel_rfl) (fun _ _ _ h => h) (Or.inl ⟨by rfl, ?_⟩) (by assumption) ?_; rotate_left; focus (intro w hSw; (try dsimp only at hSw); first | (go_simp; done) | (go_simp; with_reducible rfl))
      try simp only [Act.put]
      try simp only [List.setIfInBounds_toArray]
      try simp only [List.set_cons_succ, List.set_cons_zero]
      refine wpAnyH_take (i := 14) (oi := ⟨some 20, _, _, _, _, _⟩) (v := ?_) rfl (by kernel_rfl) (by kernel_rfl) (by kernel_rfl) (fun _ _ _ h => h) (Or.inl ⟨by rfl, ?_⟩) (by assumption) ?_; rotate_left; focus (intro w hSw; (try dsimp only at hSw); first | (go_simp; done) | (go_simp; with_reducible rfl))
      try simp only [Act.put]
      try simp only [List.setIfInBounds_toArray]
      try simp only [List.set_cons_succ, List.set_cons_zero]
      refine wpAnyH_take (i := 15) (oi := ⟨some 21, _, _, _, _, _⟩) (v := ?_) rfl (by kernel_rfl) (by kernel_rfl) (by kernel_rfl) (fun _ _ _ h => h) (Or.inl ⟨by rfl, ?_⟩) (by assumption) ?_; rotate_left; focus (intro w hSw; (try dsimp only at hSw); first | (go_simp; done) | (go_simp; with_reducible rfl))
      try simp only [Act.put]
      try simp only [List.setIfInBounds_toArray]
      try simp only [List.set_cons_succ, List.set_cons_zero]
      refine wpAnyH_take (i := 16) (oi := ⟨some 22, _, _, _, _, _⟩) (v := ?_) rfl (by kernel_rfl) (by kernel_rfl) (by kernel_rfl) (fun _ _ _ h => h) (Or.inl ⟨by rfl, ?_⟩) (by assumption) ?_; rotate_left; focus (intro w hSw; (try dsimp only at hSw); refine Eq.trans (take_lookI (.tmp 20) (.tmp 21) (by rfl) hSw.2.2.2.2.2.out Hc.out (by simp [go_sem]) (by simp [go_sem]) (s.grp c) rfl) ?_; with_reducible rfl)
      try simp only [Act.put]
      try simp only [List.setIfInBounds_toArray]
      try simp only [List.set_cons_succ, List.set_cons_zero]
      refine wpAnyH_take (i := 17) (oi := ⟨some 23, _, _, _, _, _⟩) (v := ?_) rfl (by kernel_rfl) (by kernel_rfl) (by kernel_rfl) (fun _ _ _ h => h) (Or.inl ⟨by rfl, ?_⟩) (by assumption) ?_; rotate_left; focus (intro w hSw; (try dsimp only at hSw); first | (go_simp; done) | (go_simp; with_reducible rfl))
      try simp only [Act.put]
      try simp only [List.setIfInBounds_toArray]
      try simp only [List.set_cons_succ, List.set_cons_zero]
      refine wpAnyH_take (i := 18) (oi := ⟨some 24, _, _, _, _, _⟩) (v := ?_) rfl (by kernel_rfl) (by kernel_rfl) (by kernel_rfl) (fun _ _ _ h => h) (Or.inl ⟨by rfl, ?_⟩) (by assumption) ?_; rotate_left; focus (intro w hSw; (try dsimp only at hSw); first | (go_simp; done) | (go_simp; with_reducible rfl))
      try simp only [Act.put]
      try simp only [List.setIfInBounds_toArray]
      try simp only [List.set_cons_succ, List.set_cons_zero]
      refine wpAnyH_take (i := 19) (oi := ⟨some 25, _, _, _, _, _⟩) (v := ?_) rfl (by kernel_rfl) (by kernel_rfl) (by kernel_rfl) (fun _ _ _ h => h) (Or.inl ⟨by rfl, ?_⟩) (by assumption) ?_; rotate_left; focus (intro w hSw; (try dsimp only at hSw); first | (go_simp; done) | (go_simp; with_reducible rfl))
      try simp only [Act.put]
      try simp only [List.setIfInBounds_toArray]
      try simp only [List.set_cons_succ, List.set_cons_zero]
      refine wpAnyH_take (i := 20) (oi := ⟨some 26, _, _, _, _, _⟩) (v := ?_) rfl (by kernel_rfl) (by kernel_rfl) (by kernel_rfl) (fun _ _ _ h => h) (Or.inl ⟨by rfl, ?_⟩) (by assumption) ?_; rotate_left; focus (intro w hSw; (try dsimp only at hSw); first | (go_simp; done) | (go_simp; with_reducible rfl))
      try simp only [Act.put]
      try simp only [List.setIfInBounds_toArray]
      try simp only [List.set_cons_succ, List.set_cons_zero]
      refine wpAnyH_take (i := 21) (oi := ⟨some 5, _, _, _, _, _⟩) (v := ?_) rfl (by kernel_rfl) (by kernel_rfl) (by kernel_rfl) (fun _ _ _ h => h) (Or.inl ⟨by rfl, ?_⟩) (by assumption) ?_; rotate_left; focus (intro w hSw; (try dsimp only at hSw); first | (go_simp; done) | (go_simp; with_reducible rfl))
      try simp only [Act.put]
      try simp only [List.setIfInBounds_toArray]
      try simp only [List.set_cons_succ, List.set_cons_zero]
      refine wpAnyH_done (by kernel_rfl) ?_ _
      clear hHeld
      go_wp2
      go_ret
      exact ⟨by rw [Hop.out]; rfl, (Below.refl _ _).drew⟩
    · have Hop : Hid (open_ s td i c = false) := Lib.hid (by simp [open_, Htv.out, h0])
      have f0 : ((tv : Int) == 0) = false := by simp; omega
      have Hg := Lib.hid hg
      clear hg h0
      go_wp2_with fail
      refine wp_region_held_drew (S := fun w' => w'.cell? ⟨pf, 0, none⟩ = some (.pointer (some ⟨F.fb, 0, none⟩)) ∧ w'.cell? ⟨pi, 0, none⟩ = some (.int .i64 (i : Nat)) ∧ w'.cell? ⟨pt, 0, none⟩ = some (.slice (some ⟨tb, 0, none⟩) td.length tc) ∧ w'.cell? ⟨F.fb, 4, none⟩ = some (.map (some F.gm)) ∧ w'.cell? ⟨tb, s.grp c, none⟩ = some (.int .i64 (tv : Nat)) ∧ Hid (IM w' F.gm v.gks s.grp)) (by kernel_rfl) ?_ (fun hHeld => ?_)
      · exact ⟨d0, d1, d2, d3, d4, HE.out.drew.fin.grp⟩
      refine wpAnyH_take (i := 0) (oi := ⟨some 6, _, _, _, _, _⟩) (v := ?_) rfl (by kernel_rfl) (by kernel_rfl) (by kernel_rfl) (fun _ _ _ h => h) (Or.inl ⟨by rfl, ?_⟩) (by assumption) ?_; rotate_left; focus (intro w hSw; (try dsimp only at hSw); first | (go_simp; done) | (go_simp; with_reducible rfl))
      try simp only [Act.put]
      try simp only [List.setIfInBounds_toArray]
      try simp only [List.set_cons_succ, List.set_cons_zero]
      refine wpAnyH_take (i := 1) (oi := ⟨some 7, _, _, _, _, _⟩) (v := ?_) rfl (by kernel_rfl) (by kernel_rfl) (by kernel_rfl) (fun _ _ _ h => h) (Or.inl ⟨by rfl, ?_⟩) (by assumption) ?_; rotate_left; focus (intro w hSw; (try dsimp only at hSw); first | (go_simp; done) | (go_simp; with_reducible rfl))
      try simp only [Act.put]
      try simp only [List.setIfInBounds_toArray]
      try simp only [List.set_cons_succ, List.set_cons_zero]
      refine wpAnyH_take (i := 2) (oi := ⟨some 8, _, _, _, _, _⟩) (v := ?_) rfl (by kernel_rfl) (by kernel_rfl) (by kernel_rfl) (fun _ _ _ h => h) (Or.inl ⟨by rfl, ?_⟩) (by assumption) ?_; rotate_left; focus (intro w hSw; (try dsimp only at hSw); first | (go_simp; done) | (go_simp; with_reducible rfl))
      try simp only [Act.put]
      try simp only [List.setIfInBounds_toArray]
      try simp only [List.set_cons_succ, List.set_cons_zero]
      refine wpAnyH_take (i := 3) (oi := ⟨some 9, _, _, _, _, _⟩) (v := ?_) rfl (by kernel_rfl) (by kernel_rfl) (by kernel_rfl) (fun _ _ _ h => h) (Or.inl ⟨by rfl, ?_⟩) (by assumption) ?_; rotate_left; focus (intro w hSw; (try dsimp only at hSw); first | (go_simp; done) | (go_simp; with_reducible rfl))
      try simp only [Act.put]
      try simp only [List.setIfInBounds_toArray]
      try simp only [List.set_cons_succ, List.set_cons_zero]
      refine wpAnyH_take (i := 4) (oi := ⟨some 10, _, _, _, _, _⟩) (v := ?_) rfl (by kernel_rfl) (by kernel_rfl) (by kernel_rfl) (fun _ _ _ h => h) (Or.inl ⟨by rfl, ?_⟩) (by assumption) ?_; rotate_left; focus (intro w hSw; (try dsimp only at hSw); first | (go_simp; done) | (go_simp; with_reducible rfl))
      try simp only [Act.put]
      try simp only [List.setIfInBounds_toArray]
      try simp only [List.set_cons_succ, List.set_cons_zero]
      refine wpAnyH_take (i := 5) (oi := ⟨some 11, _, _, _, _, _⟩) (v := ?_) rfl (by kernel_rfl) (by kernel_rfl) (by kernel_rfl) (fun _ _ _ h => h) (Or.inl ⟨by rfl, ?_⟩) (by assumption) ?_; rotate_left; focus (intro w hSw; (try dsimp only at hSw); refine Eq.trans (take_lookI (.tmp 9) (.tmp 10) (by rfl) hSw.2.2.2.2.2.out Hc.out (by simp [go_sem]) (by simp [go_sem]) (s.grp c) rfl) ?_; with_reducible rfl)
      try simp only [Act.put]
      try simp only [List.setIfInBounds_toArray]
      try simp only [List.set_cons_succ, List.set_cons_zero]
      refine wpAnyH_take (i := 6) (oi := ⟨some 12, _, _, _, _, _⟩) (v := ?_) rfl (by kernel_rfl) (by kernel_rfl) (by kernel_rfl) (fun _ _ _ h => h) (Or.inl ⟨by rfl, ?_⟩) (by assumption) ?_; rotate_left; focus (intro w hSw; (try dsimp only at hSw); first | (go_simp; done) | (go_simp; with_reducible rfl))
      try simp only [Act.put]
      try simp only [List.setIfInBounds_toArray]
      try simp only [List.set_cons_succ, List.set_cons_zero]
      refine wpAnyH_take (i := 7) (oi := ⟨some 13, _, _, _, _, _⟩) (v := ?_) rfl (by kernel_rfl) (by kernel_rfl) (by kernel_rfl) (fun _ _ _ h => h) (Or.inl ⟨by rfl, ?_⟩) (by assumption) ?_; rotate_left; focus (intro w hSw; (try dsimp only at hSw); first | (go_simp; done) | (go_simp; with_reducible rfl))
      try simp only [Act.put]
      try simp only [List.setIfInBounds_toArray]
      try simp only [List.set_cons_succ, List.set_cons_zero]
      refine wpAnyH_take (i := 8) (oi := ⟨some 14, _, _, _, _, _⟩) (v := ?_) rfl (by kernel_rfl) (by kernel_rfl) (by kernel_rfl) (fun _ _ _ h => h) (Or.inl ⟨by rfl, ?_⟩) (by assumption) ?_; rotate_left; focus (intro w hSw; (try dsimp only at hSw); first | (go_simp; done) | (go_simp; with_reducible rfl))
      try simp only [Act.put]
      try simp only [List.setIfInBounds_toArray]
      try simp only [List.set_cons_succ, List.set_cons_zero]
      refine wpAnyH_take (i := 9) (oi := ⟨some 15, _, _, _, _, _⟩) (v := ?_) rfl (by kernel_rfl) (by kernel_rfl) (by kernel_rfl) (fun _ _ _ h => h) (Or.inl ⟨by rfl, ?_⟩) (by assumption) ?_; rotate_left; focus (intro w hSw; (try dsimp only at hSw); first | (go_simp; done) | (go_simp; with_reducible rfl))
      try simp only [Act.put]
      try simp only [List.setIfInBounds_toArray]
      try simp only [List.set_cons_succ, List.set_cons_zero]
      refine wpAnyH_take (i := 10) (oi := ⟨some 16, _, _, _, _, _⟩) (v := ?_) rfl (by kernel_rfl) (by kernel_rfl) (by kernel_rfl) (fun _ _ _ h => h) (Or.inl ⟨by rfl, ?_⟩) (by assumption) ?_; rotate_left; focus (intro w hSw; (try dsimp only at hSw); first | (go_simp; done) | (go_simp; with_reducible rfl))
      try simp only [Act.put]
      try simp only [List.setIfInBounds_toArray]
      try simp only [List.set_cons_succ, List.set_cons_zero]
      refine wpAnyH_take (i := 11) (oi := ⟨some 17, _, _, _, _, _⟩) (v := ?_) rfl (by kernel_rfl) (by kernel_rfl) (by kernel_rfl) (fun _ _ _ h => h) (Or.inl ⟨by rfl, ?_⟩) (by assumption) ?_; rotate_left; focus (intro w hSw; (try dsimp only at hSw); first | (go_simp; done) | (go_simp; with_reducible rfl))
      try simp only [Act.put]
      try simp only [List.setIfInBounds_toArray]
      try simp only [List.set_cons_succ, List.set_cons_zero]
      refine wpAnyH_take (i := 12) (oi := ⟨some 18, _, _, _, _, _⟩) (v := ?_) rfl (by kernel_rfl) (by kernel_rfl) (by kernel_rfl) (fun _ _ _ h => h) (Or.inl ⟨by rfl, ?_⟩) (by assumption) ?_; rotate_left; focus (intro w hSw; (try dsimp only at hSw); first | (go_simp; done) | (go_simp; with_reducible rfl))
      try simp only [Act.put]
      try simp only [List.setIfInBounds_toArray]
      try simp only [List.set_cons_succ, List.set_cons_zero]
      refine wpAnyH_take (i := 13) (oi := ⟨some 19, _, _, _, _, _⟩) (v := ?_) rfl (by kernel_rfl) (by kernel_rfl) (by kernel_rfl) (fun _ _ _ h => h) (Or.inl ⟨by rfl, ?_⟩) (by assumption) ?_; rotate_left; focus (intro w hSw; (try dsimp only at hSw); first | (go_simp; done) | (go_simp; with_reducible rfl))
      try simp only [Act.put]
      try simp only [List.setIfInBounds_toArray]
      try simp only [List.set_cons_succ, List.set_cons_zero]
      refine wpAnyH_take (i := 14) (oi := ⟨some 20, _, _, _, _, _⟩) (v := ?_) rfl (by kernel_rfl) (by kernel_rfl) (by kernel_rfl) (fun _ _ _ h => h) (Or.inl ⟨by rfl, ?_⟩) (by assumption) ?_; rotate_left; focus (intro w hSw; (try dsimp only at hSw); first | (go_simp; done) | (go_simp; with_reducible rfl))
      try simp only [Act.put]
      try simp only [List.setIfInBounds_toArray]
      try simp only [List.set_cons_succ, List.set_cons_zero]
      refine wpAnyH_take (i := 15) (oi := ⟨some 21, _, _, _, _, _⟩) (v := ?_) rfl (by kernel_rfl) (by kernel_rfl) (by kernel_rfl) (fun _ _ _ h => h) (Or.inl ⟨by rfl, ?_⟩) (by assumption) ?_; rotate_left; focus (intro w hSw; (try dsimp only at hSw); first | (go_simp; done) | (go_simp; with_reducible rfl))
      try simp only [Act.put]
      try simp only [List.setIfInBounds_toArray]
      try simp only [List.set_cons_succ, List.set_cons_zero]
      refine wpAnyH_take (i := 16) (oi := ⟨some 22, _, _, _, _, _⟩) (v := ?_) rfl (by kernel_rfl) (by kernel_rfl) (by kernel_rfl) (fun _ _ _ h => h) (Or.inl ⟨by rfl, ?_⟩) (by assumption) ?_; rotate_left; focus (intro w hSw; (try dsimp only at hSw); refine Eq.trans (take_lookI (.tmp 20) (.tmp 21) (by rfl) hSw.2.2.2.2.2.out Hc.out (by simp [go_sem]) (by simp [go_sem]) (s.grp c) rfl) ?_; with_reducible rfl)
      try simp only [Act.put]
      try simp only [List.setIfInBounds_toArray]
      try simp only [List.set_cons_succ, List.set_cons_zero]
      refine wpAnyH_take (i := 17) (oi := ⟨some 23, _, _, _, _, _⟩) (v := ?_) rfl (by kernel_rfl) (by kernel_rfl) (by kernel_rfl) (fun _ _ _ h => h) (Or.inl ⟨by rfl, ?_⟩) (by assumption) ?_; rotate_left; focus (intro w hSw; (try dsimp only at hSw); first | (go_simp; done) | (go_simp; with_reducible rfl))
      try simp only [Act.put]
      try simp only [List.setIfInBounds_toArray]
      try simp only [List.set_cons_succ, List.set_cons_zero]
      refine wpAnyH_take (i := 18) (oi := ⟨some 24, _, _, _, _, _⟩) (v := ?_) rfl (by kernel_rfl) (by kernel_rfl) (by kernel_rfl) (fun _ _ _ h => h) (Or.inl ⟨by rfl, ?_⟩) (by assumption) ?_; rotate_left; focus (intro w hSw; (try dsimp only at hSw); first | (go_simp; done) | (go_simp; with_reducible rfl))
      try simp only [Act.put]
      try simp only [List.setIfInBounds_toArray]
      try simp only [List.set_cons_succ, List.set_cons_zero]
      refine wpAnyH_take (i := 19) (oi := ⟨some 25, _, _, _, _, _⟩) (v := ?_) rfl (by kernel_rfl) (by kernel_rfl) (by kernel_rfl) (fun _ _ _ h => h) (Or.inl ⟨by rfl, ?_⟩) (by assumption) ?_; rotate_left; focus (intro w hSw; (try dsimp only at hSw); first | (go_simp; done) | (go_simp; with_reducible rfl))
      try simp only [Act.put]
      try simp only [List.setIfInBounds_toArray]
      try simp only [List.set_cons_succ, List.set_cons_zero]
      refine wpAnyH_take (i := 20) (oi := ⟨some 26, _, _, _, _, _⟩) (v := ?_) rfl (by kernel_rfl) (by kernel_rfl) (by kernel_rfl) (fun _ _ _ h => h) (Or.inl ⟨by rfl, ?_⟩) (by assumption) ?_; rotate_left; focus (intro w hSw; (try dsimp only at hSw); first | (go_simp; done) | (go_simp; with_reducible rfl))
      try simp only [Act.put]
      try simp only [List.setIfInBounds_toArray]
      try simp only [List.set_cons_succ, List.set_cons_zero]
      refine wpAnyH_take (i := 21) (oi := ⟨some 5, _, _, _, _, _⟩) (v := ?_) rfl (by kernel_rfl) (by kernel_rfl) (by kernel_rfl) (fun _ _ _ h => h) (Or.inl ⟨by rfl, ?_⟩) (by assumption) ?_; rotate_left; focus (intro w hSw; (try dsimp only at hSw); first | (go_simp; done) | (go_simp; with_reducible rfl))
      try simp only [Act.put]
      try simp only [List.setIfInBounds_toArray]
      try simp only [List.set_cons_succ, List.set_cons_zero]
      refine wpAnyH_done (by kernel_rfl) ?_ _
      clear hHeld
      go_wp2
      go_ret
      exact ⟨by rw [Hop.out]; rfl, (Below.refl _ _).drew⟩

set_option maxHeartbeats 1000000 in
set_option maxRecDepth 20000 in
theorem idxS_o (b1 b2 b3 : Nat) (p : Nm → Bool) (a : Option Addr) (c : Nat) (l : List Nm) (w : World) (hr : Row w 1 a l.length (l.map strV)) (hl : l.length ≤ 2097152)
    (hp : ∀ x ∈ l, ∀ W, Below w.heap.size w W → Calls Try.prog 37 #[.string ⟨x.toArray⟩, .pointer (some ⟨b1, 0, none⟩), .pointer (some ⟨b2, 0, none⟩), .pointer (some ⟨b3, 0, none⟩)] W fun e W' => e = .returned (.bool (p x)) ∧ Below W.heap.size W W') :
    Calls Try.prog 57 #[.slice a l.length c, .func (.func 37) #[] #[.pointer (some ⟨b1, 0, none⟩), .pointer (some ⟨b2, 0, none⟩), .pointer (some ⟨b3, 0, none⟩)]] w fun e w' => (∃ r : Int, e = .returned (.int .i64 r) ∧ decide (0 ≤ r) = l.any p) ∧ Below w.heap.size w w' := by
  have HR := Lib.hid hr
  have HP := Lib.hid hp
  clear hr hp
  go_enter Try.func57, Try.ntmps57
  go_wp2_with fail
  go_loopw [8] (fun i wq => ∃ k : Nat, k ≤ l.length ∧ i = .int .i64 k ∧ Hid (∀ (j : Nat) y, j < k → l[j]? = some y → p y = false) ∧ Hid (Below w.heap.size w wq)) (fun i _ => l.length - (intOf i).toNat)
  case atStart => exact ⟨0, Nat.zero_le _, rfl, Lib.hid fun j y h => by omega, Lib.hid (Below.refl _ _)⟩
  case round =>
    obtain ⟨k, hk, rfl, hall, hb⟩ := hrel
    by_cases hlt : k < l.length
    · obtain ⟨x, hx⟩ := get_some hlt
      obtain ⟨bl, ol, rfl, c1⟩ := str_at (HR.out.ext hb.out) hx
      have hcall := Lib.hid (HP.out x (List.mem_of_getElem? hx) wr hb.out)
      have Hx := Lib.hid hx
      clear hx
      cases hpx : p x
      · have Hpx := Lib.hid hpx
        rw [hpx] at hcall
        clear hpx
        go_wp2_with fail
        refine hcall.out.mono ?_
        rintro e w' ⟨rfl, hb'⟩
        have Hb' := Lib.hid (hb.out.trans (hb'.mono hb.out.size))
        clear hb' hcall
        go_wp2
        go_roundw
        case rel =>
          refine ⟨k + 1, by omega, by go_num, Lib.hid fun j y hj hy => ?_, Hb'⟩
          rcases Nat.lt_or_ge j k with h | h
          · exact hall.out j y h hy
          · obtain rfl : j = k := by omega
            rw [Hx.out] at hy; cases hy; exact Hpx.out
        case measure => simp [intOf]; omega
      · have Hpx := Lib.hid hpx
        rw [hpx] at hcall
        clear hpx
        go_wp2_with fail
        refine hcall.out.mono ?_
        rintro e w' ⟨rfl, hb'⟩
        have Hb' := Lib.hid (hb.out.trans (hb'.mono hb.out.size))
        clear hb' hcall
        go_wp2
        go_ret
        refine ⟨⟨k, rfl, ?_⟩, Hb'.out⟩
        have : l.any p = true := List.any_eq_true.2 ⟨x, List.mem_of_getElem? Hx.out, Hpx.out⟩
        rw [this]; simp
    · obtain rfl : k = l.length := by omega
      go_wp2
      go_ret
      refine ⟨⟨-1, rfl, ?_⟩, hb.out⟩
      have : l.any p = false := List.any_eq_false.2 fun x hx => by
        obtain ⟨j, hj⟩ := List.getElem?_of_mem hx
        have := hall.out j x (get_lt hj) hj
        simp [this]
      rw [this]; rfl

theorem containsS_o (b1 b2 b3 : Nat) (p : Nm → Bool) (a : Option Addr) (c : Nat) (l : List Nm) (w : World) (hr : Row w 1 a l.length (l.map strV)) (hl : l.length ≤ 2097152)
    (hp : ∀ x ∈ l, ∀ W, Below w.heap.size w W → Calls Try.prog 37 #[.string ⟨x.toArray⟩, .pointer (some ⟨b1, 0, none⟩), .pointer (some ⟨b2, 0, none⟩), .pointer (some ⟨b3, 0, none⟩)] W fun e W' => e = .returned (.bool (p x)) ∧ Below W.heap.size W W') :
    Calls Try.prog 35 #[.slice a l.length c, .func (.func 37) #[] #[.pointer (some ⟨b1, 0, none⟩), .pointer (some ⟨b2, 0, none⟩), .pointer (some ⟨b3, 0, none⟩)]] w fun e w' => e = .returned (.bool (l.any p)) ∧ Below w.heap.size w w' := by
  have h := idxS_o b1 b2 b3 p a c l w hr hl hp
  clear hr hp
  go_enter Try.func35, Try.ntmps35
  go_wp2_with fail
  refine h.mono ?_
  rintro e w' ⟨⟨r, rfl, hr⟩, hb⟩
  have Hr := Lib.hid hr
  clear hr
  go_wp2
  go_ret
  exact ⟨by rw [← Hr.out]; rfl, hb⟩

set_option maxHeartbeats 1000000 in
set_option maxRecDepth 20000 in
theorem idxS_h (b1 b2 b3 : Nat) (p : Nm → Bool) (a : Option Addr) (c : Nat) (l : List Nm) (w : World) (hr : Row w 1 a l.length (l.map strV)) (hl : l.length ≤ 2097152)
    (hp : ∀ x ∈ l, ∀ W, Below w.heap.size w W → Calls Try.prog 36 #[.string ⟨x.toArray⟩, .pointer (some ⟨b1, 0, none⟩), .pointer (some ⟨b2, 0, none⟩), .pointer (some ⟨b3, 0, none⟩)] W fun e W' => e = .returned (.bool (p x)) ∧ Below W.heap.size W W') :
    Calls Try.prog 57 #[.slice a l.length c, .func (.func 36) #[] #[.pointer (some ⟨b1, 0, none⟩), .pointer (some ⟨b2, 0, none⟩), .pointer (some ⟨b3, 0, none⟩)]] w fun e w' => (∃ r : Int, e = .returned (.int .i64 r) ∧ decide (0 ≤ r) = l.any p) ∧ Below w.heap.size w w' := by
  have HR := Lib.hid hr
  have HP := Lib.hid hp
  clear hr hp
  go_enter Try.func57, Try.ntmps57
  go_wp2_with fail
  go_loopw [8] (fun i wq => ∃ k : Nat, k ≤ l.length ∧ i = .int .i64 k ∧ Hid (∀ (j : Nat) y, j < k → l[j]? = some y → p y = false) ∧ Hid (Below w.heap.size w wq)) (fun i _ => l.length - (intOf i).toNat)
  case atStart => exact ⟨0, Nat.zero_le _, rfl, Lib.hid fun j y h => by omega, Lib.hid (Below.refl _ _)⟩
  case round =>
    obtain ⟨k, hk, rfl, hall, hb⟩ := hrel
    by_cases hlt : k < l.length
    · obtain ⟨x, hx⟩ := get_some hlt
      obtain ⟨bl, ol, rfl, c1⟩ := str_at (HR.out.ext hb.out) hx
      have hcall := Lib.hid (HP.out x (List.mem_of_getElem? hx) wr hb.out)
      have Hx := Lib.hid hx
      clear hx
      cases hpx : p x
      · have Hpx := Lib.hid hpx
        rw [hpx] at hcall
        clear hpx
        go_wp2_with fail
        refine hcall.out.mono ?_
        rintro e w' ⟨rfl, hb'⟩
        have Hb' := Lib.hid (hb.out.trans (hb'.mono hb.out.size))
        clear hb' hcall
        go_wp2
        go_roundw
        case rel =>
          refine ⟨k + 1, by omega, by go_num, Lib.hid fun j y hj hy => ?_, Hb'⟩
          rcases Nat.lt_or_ge j k with h | h
          · exact hall.out j y h hy
          · obtain rfl : j = k := by omega
            rw [Hx.out] at hy; cases hy; exact Hpx.out
        case measure => simp [intOf]; omega
      · have Hpx := Lib.hid hpx
        rw [hpx] at hcall
        clear hpx
        go_wp2_with fail
        refine hcall.out.mono ?_
        rintro e w' ⟨rfl, hb'⟩
        have Hb' := Lib.hid (hb.out.trans (hb'.mono hb.out.size))
        clear hb' hcall
        go_wp2
        go_ret
        refine ⟨⟨k, rfl, ?_⟩, Hb'.out⟩
        have : l.any p = true := List.any_eq_true.2 ⟨x, List.mem_of_getElem? Hx.out, Hpx.out⟩
        rw [this]; simp
    · obtain rfl : k = l.length := by omega
      go_wp2
      go_ret
      refine ⟨⟨-1, rfl, ?_⟩, hb.out⟩
      have : l.any p = false := List.any_eq_false.2 fun x hx => by
        obtain ⟨j, hj⟩ := List.getElem?_of_mem hx
        have := hall.out j x (get_lt hj) hj
        simp [this]
      rw [this]; rfl

theorem containsS_h (b1 b2 b3 : Nat) (p : Nm → Bool) (a : Option Addr) (c : Nat) (l : List Nm) (w : World) (hr : Row w 1 a l.length (l.map strV)) (hl : l.length ≤ 2097152)
    (hp : ∀ x ∈ l, ∀ W, Below w.heap.size w W → Calls Try.prog 36 #[.string ⟨x.toArray⟩, .pointer (some ⟨b1, 0, none⟩), .pointer (some ⟨b2, 0, none⟩), .pointer (some ⟨b3, 0, none⟩)] W fun e W' => e = .returned (.bool (p x)) ∧ Below W.heap.size W W') :
    Calls Try.prog 35 #[.slice a l.length c, .func (.func 36) #[] #[.pointer (some ⟨b1, 0, none⟩), .pointer (some ⟨b2, 0, none⟩), .pointer (some ⟨b3, 0, none⟩)]] w fun e w' => e = .returned (.bool (l.any p)) ∧ Below w.heap.size w w' := by
  have h := idxS_h b1 b2 b3 p a c l w hr hl hp
  clear hr hp
  go_enter Try.func35, Try.ntmps35
  go_wp2_with fail
  refine h.mono ?_
  rintro e w' ⟨⟨r, rfl, hr⟩, hb⟩
  have Hr := Lib.hid hr
  clear hr
  go_wp2
  go_ret
  exact ⟨by rw [← Hr.out]; rfl, hb⟩

/-- n calls one that is not told, and is of another group -/
def hit (F : FC) (s : TSt Nm) (td : List Nat) (i : Nat) (n : Nm) : Bool := (outs F.E n).any (open_ s td i)
set_option maxHeartbeats 1000000 in
set_option maxRecDepth 20000 in
theorem hit_any (F : FC) (ho : F.Ok) (v : FV) (s : TSt Nm) (pf pt pi tb tc : Nat) (td : List Nat) (i : Nat) (n : Nm) (w : World) (he : Env F v w s pf pt tb tc td) (hi : i ≤ 1048576) (hpi : Blk w pi #[.int .i64 i] 3) (hn : n.length ≤ maxLen) :
    Calls Try.prog 36 #[.string ⟨n.toArray⟩, .pointer (some ⟨pf, 0, none⟩), .pointer (some ⟨pi, 0, none⟩), .pointer (some ⟨pt, 0, none⟩)] w fun e w' => e = .returned (.bool (hit F s td i n)) ∧ Below w.heap.size w w' := by
  have HG := Lib.hid (he.fin.core.graph ho)
  have hcon := containsS_o pf pi pt (open_ s td i) (F.sl n).1 (F.sl n).2 (outs F.E n) w (HG.out.own n).row (by have := outs_len F.E n; have := ho.el; omega) fun x hx W hb =>
    open_any F v s pf pt pi tb tc td i x W (he.ext hb) hi (hpi.ext hb) (ho.rows.map.klen x (ho.rows.keys (n, x) (mem_outs.1 hx)).2)
  have d0 : w.cell? ⟨pf, 0, none⟩ = some (.pointer (some ⟨F.fb, 0, none⟩)) := he.bf.cell 0
  have d1 : w.cell? ⟨F.fb, 0, none⟩ = some (.map (some F.gb)) := he.fin.core.blk.cell 0
  have HN := Lib.hid hn
  clear he hpi ho hn
  go_enter Try.func36, Try.ntmps36
  go_wp2_with (at_lookup; refine wpList_look rfl _ _ _ _ rfl undG (zeroStrs _) (by exact HG.out.map) HN.out rfl rfl ?_)
  refine hcon.mono ?_
  rintro e w' ⟨rfl, hb⟩
  go_wp2
  go_ret
  exact ⟨rfl, hb⟩

/-- group i calls none that is not told, but its own -/
def rdy (F : FC) (s : TSt Nm) (td : List Nat) (i : Nat) (l : List Nm) : Bool := !l.any (hit F s td i)
set_option maxHeartbeats 1000000 in
set_option maxRecDepth 20000 in
theorem rdy_any (F : FC) (ho : F.Ok) (v : FV) (s : TSt Nm) (pf pt tb tc : Nat) (td : List Nat) (i : Nat) (r : RowD) (w : World) (he : Env F v w s pf pt tb tc td) (hr : v.all[i]? = some r) :
    Calls Try.prog 34 #[.int .i64 i, .pointer (some ⟨pf, 0, none⟩), .pointer (some ⟨pt, 0, none⟩)] w fun e w' => e = .returned (.bool (rdy F s td i r.l)) ∧ Below w.heap.size w w' := by
  have hil := get_lt hr
  have hal := he.al
  have he1 := he.ext (below_a1 w (.cells #[.int .i64 i] 3))
  have hb0 : Below w.heap.size w (w.alloc (.cells #[.int .i64 i] 3)).drew := (below_a1 _ _).drew
  have hrl : r.l.length ≤ 1048576 := by
    have h1 := List.Nodup.length_le_of_subset (l₁ := r.l) (l₂ := F.ks) ((he.fin.ris r (List.mem_of_getElem? hr)).imp fun h e => by subst e; exact absurd h (List.lt_irrefl _)) fun x hx => by
      have hx2 : s.all[i]? = some r.l := by rw [he.fin.sall, List.getElem?_map, hr]; rfl
      have := (he.inv.mem i r.l hx2 x).1 hx
      exact he.fin.dsub x ((he.fin.dk x).2 (he.inv.seen x (by omega)))
    have := ho.kl; omega
  have hkl : ∀ x ∈ r.l, x.length ≤ maxLen := fun x hx => by
    have hx2 : s.all[i]? = some r.l := by rw [he.fin.sall, List.getElem?_map, hr]; rfl
    have := (he.inv.mem i r.l hx2 x).1 hx
    exact ho.rows.map.klen x (he.fin.dsub x ((he.fin.dk x).2 (he.inv.seen x (by omega))))
  have hcon := containsS_h pf w.heap.size pt (hit F s td i) r.a r.c r.l (w.alloc (.cells #[.int .i64 i] 3)).drew ((he1.drew.fin.core.rows r (List.mem_of_getElem? hr)).row) (by omega) fun x hx W hb =>
    hit_any F ho v s pf pt w.heap.size tb tc td i x W (he1.drew.ext hb) (by omega) ((Blk.new (w := w) rfl).drew.ext hb) (hkl x hx)
  obtain ⟨ab, ao, haa, cr⟩ := Row.elem1 (f := RowD.val) he1.fin.core.al.row hr
  have d0 : (w.alloc (.cells #[.int .i64 i] 3)).cell? ⟨pf, 0, none⟩ = some (.pointer (some ⟨F.fb, 0, none⟩)) := he1.bf.cell 0
  have d1 : (w.alloc (.cells #[.int .i64 i] 3)).cell? ⟨F.fb, 5, none⟩ = some (.slice (some ⟨ab, ao, none⟩) v.all.length v.ac) := by rw [← haa]; exact he1.fin.core.blk.cell 5
  have d2 : (w.alloc (.cells #[.int .i64 i] 3)).cell? ⟨w.heap.size, 0, none⟩ = some (.int .i64 i) := (Blk.new (w := w) rfl).cell 0
  have d3 : (w.alloc (.cells #[.int .i64 i] 3)).cell? ⟨ab, ao + i, none⟩ = some (.slice r.a r.l.length r.c) := cr
  have Hcon := Lib.hid hcon
  have Hb0 := Lib.hid hb0
  clear he he1 hcon ho hb0 haa cr hr hkl
  go_enter Try.func34, Try.ntmps34
  go_wp2_with fail
  refine wp_region_held_drew (S := fun w' => w'.cell? ⟨pf, 0, none⟩ = some (.pointer (some ⟨F.fb, 0, none⟩)) ∧ w'.cell? ⟨F.fb, 5, none⟩ = some (.slice (some ⟨ab, ao, none⟩) v.all.length v.ac) ∧ w'.cell? ⟨w.heap.size, 0, none⟩ = some (.int .i64 (i : Nat)) ∧ w'.cell? ⟨ab, ao + i, none⟩ = some (.slice r.a r.l.length r.c)) (by kernel_rfl) ?_ (fun hHeld => ?_)
  · exact ⟨d0, d1, d2, d3⟩
  refine wpAnyH_take (i := 0) (oi := ⟨some 5, _, _, _, _, _⟩) (v := ?_) rfl (by kernel_rfl) (by kernel_rfl) (by kernel_rfl) (fun _ _ _ h => h) (Or.inl ⟨by rfl, ?_⟩) (by assumption) ?_; rotate_left; focus (intro w hSw; (try dsimp only at hSw); first | (go_simp; done) | (go_simp; with_reducible rfl))
  try simp only [Act.put]
  try simp only [List.setIfInBounds_toArray]
  try simp only [List.set_cons_succ, List.set_cons_zero]
  refine wpAnyH_take (i := 1) (oi := ⟨some 6, _, _, _, _, _⟩) (v := ?_) rfl (by kernel_rfl) (by kernel_rfl) (by kernel_rfl) (fun _ _ _ h => h) (Or.inl ⟨by rfl, ?_⟩) (by assumption) ?_; rotate_left; focus (intro w hSw; (try dsimp only at hSw); first | (go_simp; done) | (go_simp; with_reducible rfl))
  try simp only [Act.put]
  try simp only [List.setIfInBounds_toArray]
  try simp only [List.set_cons_succ, List.set_cons_zero]
  refine wpAnyH_take (i := 2) (oi := ⟨some 7, _, _, _, _, _⟩) (v := ?_) rfl (by kernel_rfl) (by kernel_rfl) (by kernel_rfl) (fun _ _ _ h => h) (Or.inl ⟨by rfl, ?_⟩) (by assumption) ?_; rotate_left; focus (intro w hSw; (try dsimp only at hSw); first | (go_simp; done) | (go_simp; with_reducible rfl))
  try simp only [Act.put]
  try simp only [List.setIfInBounds_toArray]
  try simp only [List.set_cons_succ, List.set_cons_zero]
  refine wpAnyH_take (i := 3) (oi := ⟨some 8, _, _, _, _, _⟩) (v := ?_) rfl (by kernel_rfl) (by kernel_rfl) (by kernel_rfl) (fun _ _ _ h => h) (Or.inl ⟨by rfl, ?_⟩) (by assumption) ?_; rotate_left; focus (intro w hSw; (try dsimp only at hSw); first | (go_simp; done) | (go_simp; with_reducible rfl))
  try simp only [Act.put]
  try simp only [List.setIfInBounds_toArray]
  try simp only [List.set_cons_succ, List.set_cons_zero]
  refine wpAnyH_take (i := 4) (oi := ⟨some 9, _, _, _, _, _⟩) (v := ?_) rfl (by kernel_rfl) (by kernel_rfl) (by kernel_rfl) (fun _ _ _ h => h) (Or.inl ⟨by rfl, ?_⟩) (by assumption) ?_; rotate_left; focus (intro w hSw; (try dsimp only at hSw); first | (go_simp; done) | (go_simp; with_reducible rfl))
  try simp only [Act.put]
  try simp only [List.setIfInBounds_toArray]
  try simp only [List.set_cons_succ, List.set_cons_zero]
  refine wpAnyH_take (i := 5) (oi := ⟨some 10, _, _, _, _, _⟩) (v := ?_) rfl (by kernel_rfl) (by kernel_rfl) (by kernel_rfl) (fun _ _ _ h => h) (Or.inl ⟨by rfl, ?_⟩) (by assumption) ?_; rotate_left; focus (intro w hSw; (try dsimp only at hSw); first | (go_simp; done) | (go_simp; with_reducible rfl))
  try simp only [Act.put]
  try simp only [List.setIfInBounds_toArray]
  try simp only [List.set_cons_succ, List.set_cons_zero]
  refine wpAnyH_take (i := 6) (oi := ⟨some 11, _, _, _, _, _⟩) (v := ?_) rfl (by kernel_rfl) (by kernel_rfl) (by kernel_rfl) (fun _ _ _ h => h) (Or.inl ⟨by rfl, ?_⟩) (by assumption) ?_; rotate_left; focus (intro w hSw; (try dsimp only at hSw); first | (go_simp; done) | (go_simp; with_reducible rfl))
  try simp only [Act.put]
  try simp only [List.setIfInBounds_toArray]
  try simp only [List.set_cons_succ, List.set_cons_zero]
  refine wpAnyH_take (i := 7) (oi := ⟨some 12, _, _, _, _, _⟩) (v := ?_) rfl (by kernel_rfl) (by kernel_rfl) (by kernel_rfl) (fun _ _ _ h => h) (Or.inl ⟨by rfl, ?_⟩) (by assumption) ?_; rotate_left; focus (intro w hSw; (try dsimp only at hSw); first | (go_simp; done) | (go_simp; with_reducible rfl))
  try simp only [Act.put]
  try simp only [List.setIfInBounds_toArray]
  try simp only [List.set_cons_succ, List.set_cons_zero]
  refine wpAnyH_ready (rs := [8]) (by kernel_rfl) (by simp) ?_
  refine AllReadyH.cons (i := 8) (o := ⟨some 13, _, _, _, _, _⟩) rfl (fun K hK => ?_) ?_
  · go_simp
    refine Hcon.out.mono ?_
    rintro e w5 ⟨rfl, hb5⟩
    refine hK.out _ _ ?_ (fun hHeld => ?_)
    · exact ⟨below_ext hb5 (by exact d0), below_ext hb5 (by exact d1), below_ext hb5 (by exact d2), below_ext hb5 (by exact d3)⟩
    try simp only [Act.put]
    try simp only [List.setIfInBounds_toArray]
    try simp only [List.set_cons_succ, List.set_cons_zero]
    refine wpAnyH_take (i := 9) (oi := ⟨some 14, _, _, _, _, _⟩) (v := ?_) rfl (by kernel_rfl) (by kernel_rfl) (by kernel_rfl) (fun _ _ _ h => h) (Or.inl ⟨by rfl, ?_⟩) (by assumption) ?_; rotate_left; focus (intro w hSw; (try dsimp only at hSw); first | (go_simp; done) | (go_simp; with_reducible rfl))
    try simp only [Act.put]
    try simp only [List.setIfInBounds_toArray]
    try simp only [List.set_cons_succ, List.set_cons_zero]
    refine wpAnyH_take (i := 10) (oi := ⟨some 4, _, _, _, _, _⟩) (v := ?_) rfl (by kernel_rfl) (by kernel_rfl) (by kernel_rfl) (fun _ _ _ h => h) (Or.inl ⟨by rfl, ?_⟩) (by assumption) ?_; rotate_left; focus (intro w hSw; (try dsimp only at hSw); first | (go_simp; done) | (go_simp; with_reducible rfl))
    try simp only [Act.put]
    try simp only [List.setIfInBounds_toArray]
    try simp only [List.set_cons_succ, List.set_cons_zero]
    refine wpAnyH_done (by kernel_rfl) ?_ _
    have Hb5 := Lib.hid (Hb0.out.trans (hb5.mono Hb0.out.size))
    clear hHeld hb5 Hcon d0 d1 d2 d3
    go_wp2
    go_ret
    exact ⟨rfl, Hb5.out⟩
  exact AllReadyH.nil

theorem Blk.cell0 {w : World} {g : Nat} {x : Value} {e : TypeId} (h : Blk w g #[x] e) : w.cell? ⟨g, 0, none⟩ = some x := h.cell 0
/-- group i is not told, and may be -/
def pick (F : FC) (s : TSt Nm) (td : List Nat) (gl : Nat → List Nm) (i : Nat) : Bool := decide (td[i + 1]? = some 0) && rdy F s td i (gl i)
def glOf (v : FV) (i : Nat) : List Nm := match v.all[i]? with
  | some r => r.l
  | none => []
theorem glOf_some {v : FV} {i : Nat} {r : RowD} (h : v.all[i]? = some r) : glOf v i = r.l := by simp [glOf, h]
set_option maxHeartbeats 1000000 in
set_option maxRecDepth 20000 in
theorem pick_any (F : FC) (ho : F.Ok) (v : FV) (s : TSt Nm) (pf pt pr tb tc : Nat) (td : List Nat) (i : Nat) (w : World) (he : Env F v w s pf pt tb tc td) (hi : i < v.all.length) (hpr : Blk w pr #[.func (.func 34) #[] #[.pointer (some ⟨pf, 0, none⟩), .pointer (some ⟨pt, 0, none⟩)]] 71) :
    Calls Try.prog 44 #[.int .i64 i, .pointer (some ⟨pt, 0, none⟩), .pointer (some ⟨pr, 0, none⟩)] w fun e w' => e = .returned (.bool (pick F s td (glOf v) i)) ∧ Below w.heap.size w w' := by
  obtain ⟨r, hr⟩ := get_some hi
  have hal := he.al
  have htl := he.tl
  have hcl := he.tr.le
  have hrdy := rdy_any F ho v s pf pt tb tc td i r w he hr
  have hlt : i + 1 < td.length := by omega
  obtain ⟨tv, htv⟩ := get_some hlt
  have d0 : w.cell? ⟨pt, 0, none⟩ = some (.slice (some ⟨tb, 0, none⟩) td.length tc) := he.bt.cell 0
  have d1 : w.cell? ⟨pr, 0, none⟩ = some (.func (.func 34) #[] #[.pointer (some ⟨pf, 0, none⟩), .pointer (some ⟨pt, 0, none⟩)]) := hpr.cell 0
  have d2 : w.cell? ⟨tb, i + 1, none⟩ = some (.int .i64 (tv : Nat)) := by
    have h2 := (he.tr.at0 (j := i + 1) hlt).2.1
    have h1 := (he.tr.at0 (j := i + 1) hlt).1
    rw [List.getElem?_map, htv] at h2
    first | (rw [h1]; simpa using h2) | (rw [h2]; rfl) | simpa [htv] using h2
  have fw : IntKind.i64.wrap ((i : Int) + 1) = (i : Int) + 1 := IntWalk.i64_in _ (by omega)
  have Hgl := Lib.hid (glOf_some hr)
  have Htv := Lib.hid htv
  have Hrdy := Lib.hid hrdy
  clear he hpr ho hrdy hr htv
  go_enter Try.func44, Try.ntmps44
  by_cases h0 : tv = 0
  · have f0 : ((tv : Int) == 0) = true := by simp [h0]
    have Hp : Hid (pick F s td (glOf v) i = rdy F s td i r.l) := Lib.hid (by unfold pick; rw [Hgl.out, Htv.out, h0]; simp)
    clear h0
    go_wp2_with fail
    refine Hrdy.out.mono ?_
    rintro e w' ⟨rfl, hb⟩
    go_wp2
    go_ret
    exact ⟨by rw [Hp.out]; rfl, hb⟩
  · have f0 : ((tv : Int) == 0) = false := by simp; omega
    have Hp : Hid (pick F s td (glOf v) i = false) := Lib.hid (by unfold pick; rw [Htv.out]; simp [h0])
    clear h0
    go_wp2
    go_ret
    exact ⟨by rw [Hp.out]; rfl, Below.refl _ _⟩

set_option maxHeartbeats 1000000 in
set_option maxRecDepth 20000 in
theorem idxI_any (b1 b2 : Nat) (p : Nat → Bool) (a : Option Addr) (c : Nat) (l : List Nat) (w : World) (hr : Row w 1 a l.length (l.map intV)) (hl : l.length ≤ 2097152)
    (hp : ∀ x ∈ l, ∀ W, Below w.heap.size w W → Calls Try.prog 44 #[.int .i64 x, .pointer (some ⟨b1, 0, none⟩), .pointer (some ⟨b2, 0, none⟩)] W fun e W' => e = .returned (.bool (p x)) ∧ Below W.heap.size W W') :
    Calls Try.prog 43 #[.slice a l.length c, .func (.func 44) #[] #[.pointer (some ⟨b1, 0, none⟩), .pointer (some ⟨b2, 0, none⟩)]] w fun e w' => ((∃ (k : Nat) (x : Nat), e = .returned (.int .i64 k) ∧ l[k]? = some x ∧ p x = true ∧ ∀ (j : Nat) y, j < k → l[j]? = some y → p y = false) ∨ ∀ x ∈ l, p x = false) ∧ Below w.heap.size w w' := by
  have HR := Lib.hid hr
  have HP := Lib.hid hp
  clear hr hp
  go_enter Try.func43, Try.ntmps43
  go_wp2_with fail
  go_loopw [8] (fun i wq => ∃ k : Nat, k ≤ l.length ∧ i = .int .i64 k ∧ Hid (∀ (j : Nat) y, j < k → l[j]? = some y → p y = false) ∧ Hid (Below w.heap.size w wq)) (fun i _ => l.length - (intOf i).toNat)
  case atStart => exact ⟨0, Nat.zero_le _, rfl, Lib.hid fun j y h => by omega, Lib.hid (Below.refl _ _)⟩
  case round =>
    obtain ⟨k, hk, rfl, hall, hb⟩ := hrel
    by_cases hlt : k < l.length
    · obtain ⟨x, hx⟩ := get_some hlt
      obtain ⟨bl, ol, rfl, c1⟩ := Row.elem1 (f := intV) (HR.out.ext hb.out) hx
      dsimp only [intV] at c1
      have hcall := Lib.hid (HP.out x (List.mem_of_getElem? hx) wr hb.out)
      have Hx := Lib.hid hx
      clear hx
      cases hpx : p x
      · have Hpx := Lib.hid hpx
        rw [hpx] at hcall
        clear hpx
        go_wp2_with fail
        refine hcall.out.mono ?_
        rintro e w' ⟨rfl, hb'⟩
        have Hb' := Lib.hid (hb.out.trans (hb'.mono hb.out.size))
        clear hb' hcall
        go_wp2
        go_roundw
        case rel =>
          refine ⟨k + 1, by omega, by go_num, Lib.hid fun j y hj hy => ?_, Hb'⟩
          rcases Nat.lt_or_ge j k with h | h
          · exact hall.out j y h hy
          · obtain rfl : j = k := by omega
            rw [Hx.out] at hy; cases hy; exact Hpx.out
        case measure => simp [intOf]; omega
      · have Hpx := Lib.hid hpx
        rw [hpx] at hcall
        clear hpx
        go_wp2_with fail
        refine hcall.out.mono ?_
        rintro e w' ⟨rfl, hb'⟩
        have Hb' := Lib.hid (hb.out.trans (hb'.mono hb.out.size))
        clear hb' hcall
        go_wp2
        go_ret
        exact ⟨.inl ⟨k, x, rfl, Hx.out, Hpx.out, hall.out⟩, Hb'.out⟩
    · obtain rfl : k = l.length := by omega
      go_wp2
      go_ret
      refine ⟨.inr fun x hx => ?_, hb.out⟩
      obtain ⟨j, hj⟩ := List.getElem?_of_mem hx
      exact hall.out j x (get_lt hj) hj

set_option maxHeartbeats 1000000 in
set_option maxRecDepth 20000 in
/-- two groups, by their numbers -/
theorem cmpG_any (F : FC) (v : FV) (s : TSt Nm) (pf : Nat) (i j : Nat) (ri rj : RowD) (w : World) (hf : FSt F v w s) (hbf : Blk w pf #[.pointer (some ⟨F.fb, 0, none⟩)] 60) (_ : v.all.length ≤ 1048576) (hi : v.all[i]? = some ri) (hj : v.all[j]? = some rj) (hli : ri.l.length ≤ 1048576) (hlj : rj.l.length ≤ 1048576) :
    Calls Try.prog 41 #[.int .i64 i, .int .i64 j, .pointer (some ⟨pf, 0, none⟩)] w fun e w' => e = .returned (.int .i64 (cmpL ri.l rj.l)) ∧ w' = w.drew := by
  have hil := get_lt hi
  have hjl := get_lt hj
  obtain ⟨ab, ao, haa, ci⟩ := Row.elem1 (f := RowD.val) hf.core.al.row hi
  obtain ⟨ab', ao', haa', cj⟩ := Row.elem1 (f := RowD.val) hf.core.al.row hj
  rw [haa] at haa'
  cases haa'
  have hcmp := compare_any ri.a rj.a ri.c rj.c ri.l rj.l w.drew (hf.drew.core.rows ri (List.mem_of_getElem? hi)).row (hf.drew.core.rows rj (List.mem_of_getElem? hj)).row (by omega) (by omega)
  have d0 : w.cell? ⟨pf, 0, none⟩ = some (.pointer (some ⟨F.fb, 0, none⟩)) := hbf.cell 0
  have d1 : w.cell? ⟨F.fb, 5, none⟩ = some (.slice (some ⟨ab, ao, none⟩) v.all.length v.ac) := by rw [← haa]; exact hf.core.blk.cell 5
  have d2 : w.cell? ⟨ab, ao + i, none⟩ = some (.slice ri.a ri.l.length ri.c) := ci
  have d3 : w.cell? ⟨ab, ao + j, none⟩ = some (.slice rj.a rj.l.length rj.c) := cj
  have Hcmp := Lib.hid hcmp
  clear hf hbf hi hj haa ci cj hcmp
  go_enter Try.func41, Try.ntmps41
  go_wp2_with fail
  refine wp_region_held_drew (S := fun w' => w'.cell? ⟨pf, 0, none⟩ = some (.pointer (some ⟨F.fb, 0, none⟩)) ∧ w'.cell? ⟨F.fb, 5, none⟩ = some (.slice (some ⟨ab, ao, none⟩) v.all.length v.ac) ∧ w'.cell? ⟨ab, ao + i, none⟩ = some (.slice ri.a ri.l.length ri.c) ∧ w'.cell? ⟨ab, ao + j, none⟩ = some (.slice rj.a rj.l.length rj.c)) (by kernel_rfl) ?_ (fun hHeld => ?_)
  · exact ⟨d0, d1, d2, d3⟩
  refine wpAnyH_take (i := 0) (oi := ⟨some 6, _, _, _, _, _⟩) (v := ?_) rfl (by kernel_rfl) (by kernel_rfl) (by kernel_rfl) (fun _ _ _ h => h) (Or.inl ⟨by rfl, ?_⟩) (by assumption) ?_; rotate_left; focus (intro w hSw; (try dsimp only at hSw); first | (go_simp; done) | (go_simp; with_reducible rfl))
  try simp only [Act.put]
  try simp only [List.setIfInBounds_toArray]
  try simp only [List.set_cons_succ, List.set_cons_zero]
  refine wpAnyH_take (i := 1) (oi := ⟨some 7, _, _, _, _, _⟩) (v := ?_) rfl (by kernel_rfl) (by kernel_rfl) (by kernel_rfl) (fun _ _ _ h => h) (Or.inl ⟨by rfl, ?_⟩) (by assumption) ?_; rotate_left; focus (intro w hSw; (try dsimp only at hSw); first | (go_simp; done) | (go_simp; with_reducible rfl))
  try simp only [Act.put]
  try simp only [List.setIfInBounds_toArray]
  try simp only [List.set_cons_succ, List.set_cons_zero]
  refine wpAnyH_take (i := 2) (oi := ⟨some 8, _, _, _, _, _⟩) (v := ?_) rfl (by kernel_rfl) (by kernel_rfl) (by kernel_rfl) (fun _ _ _ h => h) (Or.inl ⟨by rfl, ?_⟩) (by assumption) ?_; rotate_left; focus (intro w hSw; (try dsimp only at hSw); first | (go_simp; done) | (go_simp; with_reducible rfl))
  try simp only [Act.put]
  try simp only [List.setIfInBounds_toArray]
  try simp only [List.set_cons_succ, List.set_cons_zero]
  refine wpAnyH_take (i := 3) (oi := ⟨some 9, _, _, _, _, _⟩) (v := ?_) rfl (by kernel_rfl) (by kernel_rfl) (by kernel_rfl) (fun _ _ _ h => h) (Or.inl ⟨by rfl, ?_⟩) (by assumption) ?_; rotate_left; focus (intro w hSw; (try dsimp only at hSw); first | (go_simp; done) | (go_simp; with_reducible rfl))
  try simp only [Act.put]
  try simp only [List.setIfInBounds_toArray]
  try simp only [List.set_cons_succ, List.set_cons_zero]
  refine wpAnyH_take (i := 4) (oi := ⟨some 10, _, _, _, _, _⟩) (v := ?_) rfl (by kernel_rfl) (by kernel_rfl) (by kernel_rfl) (fun _ _ _ h => h) (Or.inl ⟨by rfl, ?_⟩) (by assumption) ?_; rotate_left; focus (intro w hSw; (try dsimp only at hSw); first | (go_simp; done) | (go_simp; with_reducible rfl))
  try simp only [Act.put]
  try simp only [List.setIfInBounds_toArray]
  try simp only [List.set_cons_succ, List.set_cons_zero]
  refine wpAnyH_take (i := 5) (oi := ⟨some 11, _, _, _, _, _⟩) (v := ?_) rfl (by kernel_rfl) (by kernel_rfl) (by kernel_rfl) (fun _ _ _ h => h) (Or.inl ⟨by rfl, ?_⟩) (by assumption) ?_; rotate_left; focus (intro w hSw; (try dsimp only at hSw); first | (go_simp; done) | (go_simp; with_reducible rfl))
  try simp only [Act.put]
  try simp only [List.setIfInBounds_toArray]
  try simp only [List.set_cons_succ, List.set_cons_zero]
  refine wpAnyH_take (i := 6) (oi := ⟨some 12, _, _, _, _, _⟩) (v := ?_) rfl (by kernel_rfl) (by kernel_rfl) (by kernel_rfl) (fun _ _ _ h => h) (Or.inl ⟨by rfl, ?_⟩) (by assumption) ?_; rotate_left; focus (intro w hSw; (try dsimp only at hSw); first | (go_simp; done) | (go_simp; with_reducible rfl))
  try simp only [Act.put]
  try simp only [List.setIfInBounds_toArray]
  try simp only [List.set_cons_succ, List.set_cons_zero]
  refine wpAnyH_take (i := 7) (oi := ⟨some 13, _, _, _, _, _⟩) (v := ?_) rfl (by kernel_rfl) (by kernel_rfl) (by kernel_rfl) (fun _ _ _ h => h) (Or.inl ⟨by rfl, ?_⟩) (by assumption) ?_; rotate_left; focus (intro w hSw; (try dsimp only at hSw); first | (go_simp; done) | (go_simp; with_reducible rfl))
  try simp only [Act.put]
  try simp only [List.setIfInBounds_toArray]
  try simp only [List.set_cons_succ, List.set_cons_zero]
  refine wpAnyH_take (i := 8) (oi := ⟨some 14, _, _, _, _, _⟩) (v := ?_) rfl (by kernel_rfl) (by kernel_rfl) (by kernel_rfl) (fun _ _ _ h => h) (Or.inl ⟨by rfl, ?_⟩) (by assumption) ?_; rotate_left; focus (intro w hSw; (try dsimp only at hSw); first | (go_simp; done) | (go_simp; with_reducible rfl))
  try simp only [Act.put]
  try simp only [List.setIfInBounds_toArray]
  try simp only [List.set_cons_succ, List.set_cons_zero]
  refine wpAnyH_take (i := 9) (oi := ⟨some 15, _, _, _, _, _⟩) (v := ?_) rfl (by kernel_rfl) (by kernel_rfl) (by kernel_rfl) (fun _ _ _ h => h) (Or.inl ⟨by rfl, ?_⟩) (by assumption) ?_; rotate_left; focus (intro w hSw; (try dsimp only at hSw); first | (go_simp; done) | (go_simp; with_reducible rfl))
  try simp only [Act.put]
  try simp only [List.setIfInBounds_toArray]
  try simp only [List.set_cons_succ, List.set_cons_zero]
  refine wpAnyH_take (i := 10) (oi := ⟨some 16, _, _, _, _, _⟩) (v := ?_) rfl (by kernel_rfl) (by kernel_rfl) (by kernel_rfl) (fun _ _ _ h => h) (Or.inl ⟨by rfl, ?_⟩) (by assumption) ?_; rotate_left; focus (intro w hSw; (try dsimp only at hSw); first | (go_simp; done) | (go_simp; with_reducible rfl))
  try simp only [Act.put]
  try simp only [List.setIfInBounds_toArray]
  try simp only [List.set_cons_succ, List.set_cons_zero]
  refine wpAnyH_take (i := 11) (oi := ⟨some 17, _, _, _, _, _⟩) (v := ?_) rfl (by kernel_rfl) (by kernel_rfl) (by kernel_rfl) (fun _ _ _ h => h) (Or.inl ⟨by rfl, ?_⟩) (by assumption) ?_; rotate_left; focus (intro w hSw; (try dsimp only at hSw); first | (go_simp; done) | (go_simp; with_reducible rfl))
  try simp only [Act.put]
  try simp only [List.setIfInBounds_toArray]
  try simp only [List.set_cons_succ, List.set_cons_zero]
  refine wpAnyH_take (i := 12) (oi := ⟨some 18, _, _, _, _, _⟩) (v := ?_) rfl (by kernel_rfl) (by kernel_rfl) (by kernel_rfl) (fun _ _ _ h => h) (Or.inl ⟨by rfl, ?_⟩) (by assumption) ?_; rotate_left; focus (intro w hSw; (try dsimp only at hSw); first | (go_simp; done) | (go_simp; with_reducible rfl))
  try simp only [Act.put]
  try simp only [List.setIfInBounds_toArray]
  try simp only [List.set_cons_succ, List.set_cons_zero]
  refine wpAnyH_take (i := 13) (oi := ⟨some 19, _, _, _, _, _⟩) (v := ?_) rfl (by kernel_rfl) (by kernel_rfl) (by kernel_rfl) (fun _ _ _ h => h) (Or.inl ⟨by rfl, ?_⟩) (by assumption) ?_; rotate_left; focus (intro w hSw; (try dsimp only at hSw); first | (go_simp; done) | (go_simp; with_reducible rfl))
  try simp only [Act.put]
  try simp only [List.setIfInBounds_toArray]
  try simp only [List.set_cons_succ, List.set_cons_zero]
  refine wpAnyH_ready (rs := [14]) (by kernel_rfl) (by simp) ?_
  refine AllReadyH.cons (i := 14) (o := ⟨some 20, _, _, _, _, _⟩) rfl (fun K hK => ?_) ?_
  · go_simp
    refine Hcmp.out.mono ?_
    rintro e w5 ⟨rfl, rfl⟩
    refine hK.out _ _ ?_ (fun hHeld => ?_)
    · exact ⟨d0, d1, d2, d3⟩
    try simp only [Act.put]
    try simp only [List.setIfInBounds_toArray]
    try simp only [List.set_cons_succ, List.set_cons_zero]
    refine wpAnyH_take (i := 15) (oi := ⟨some 5, _, _, _, _, _⟩) (v := ?_) rfl (by kernel_rfl) (by kernel_rfl) (by kernel_rfl) (fun _ _ _ h => h) (Or.inl ⟨by rfl, ?_⟩) (by assumption) ?_; rotate_left; focus (intro w hSw; (try dsimp only at hSw); first | (go_simp; done) | (go_simp; with_reducible rfl))
    try simp only [Act.put]
    try simp only [List.setIfInBounds_toArray]
    try simp only [List.set_cons_succ, List.set_cons_zero]
    refine wpAnyH_done (by kernel_rfl) ?_ _
    clear hHeld Hcmp
    go_wp2
    go_ret
    exact ⟨rfl, rfl⟩
  exact AllReadyH.nil
end Go.Proofs.Ytnepamdmjppglaa
