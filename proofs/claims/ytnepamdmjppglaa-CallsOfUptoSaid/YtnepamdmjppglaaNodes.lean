/- Small functions of the law, walked: Strings, nodes, fits, same. -/
import Derived.Test.YtnepamdmjppglaaAlive
namespace Go.Proofs.Ytnepamdmjppglaa
open Go Go.RowKit

set_option maxHeartbeats 400000 in
theorem strings_any (a b : Option Addr) (ca cb : Nat) (la lb : List (List UInt8)) (w : World) (ha : Row w 1 a la.length (la.map strV)) (hb : Row w 1 b lb.length (lb.map strV)) (hl : la.length ≤ 1099511627776) :
    Calls Try.prog 9 #[.slice a la.length ca, .slice b lb.length cb] w (Ret w (IsB (la = lb))) := by
  have HA := Lib.hid ha
  have HB := Lib.hid hb
  clear ha hb
  go_enter Try.func9, Try.ntmps9
  by_cases hn : la.length = lb.length
  · have hn2 : ((la.length : Int) != lb.length) = false := by simp [hn]
    go_wp2
    go_loopw [5] (fun i wq => ∃ k : Nat, k ≤ la.length ∧ i = .int .i64 k ∧ Hid (Below w.heap.size w wq ∧ ∀ j, j < k → la[j]? = lb[j]?)) (fun i _ => la.length - (intOf i).toNat)
    case atStart => exact ⟨0, Nat.zero_le _, rfl, Below.refl _ _, fun j h => by omega⟩
    case round =>
      obtain ⟨k, hk, rfl, hq⟩ := hrel
      by_cases hlt : k < la.length
      · obtain ⟨x, hx⟩ := get_some hlt
        obtain ⟨y, hy⟩ := get_some (l := lb) (i := k) (by omega)
        obtain ⟨ab, ao, rfl, v1⟩ := (HA.out.ext hq.out.1).elem1 hx
        obtain ⟨bb, bo, rfl, v2⟩ := (HB.out.ext hq.out.1).elem1 hy
        have Hx := Lib.hid hx
        have Hy := Lib.hid hy
        have hkl : (k : Int) < la.length := by omega
        have hkl2 : (k : Int) < lb.length := by omega
        have u1 : wr.cell? ⟨ab, ao + k, none⟩ = some (.string ⟨x.toArray⟩) := v1
        have u2 : wr.cell? ⟨bb, bo + k, none⟩ = some (.string ⟨y.toArray⟩) := v2
        clear hx hy v1 v2
        by_cases hxy : x = y
        · have hne : (x == y) = true := by simpa using hxy
          have Hxy := Lib.hid hxy
          clear hxy
          go_wp2_with fail
          go_quiet (fail)
          go_wp2
          go_roundw
          case rel =>
            refine ⟨k + 1, by omega, by go_num, below_drew hq.out.1 _, fun j hj => ?_⟩
            rcases Nat.lt_or_ge j k with h | h
            · exact hq.out.2 j h
            · obtain rfl : j = k := by omega
              rw [Hx.out, Hy.out, Hxy.out]
          case measure => simp [intOf]; omega
        · have hne : (x == y) = false := by simpa using hxy
          have Hxy := Lib.hid hxy
          clear hxy
          go_wp2_with fail
          go_quiet (fail)
          go_wp2
          go_ret
          exact ⟨_, rfl, below_drew hq.out.1 _, isB_false fun h => Hxy.out (by have := Hx.out; rw [h, Hy.out] at this; simpa using this.symm)⟩
      · obtain rfl : k = la.length := by omega
        go_wp2
        go_ret
        exact ⟨_, rfl, hq.out.1, isB_true (List.ext_getElem? fun i => by rcases Nat.lt_or_ge i la.length with h | h; exact hq.out.2 i h; rw [List.getElem?_eq_none h, List.getElem?_eq_none (by omega)])⟩
  · have hn2 : ((la.length : Int) != lb.length) = true := by simp; omega
    go_wp2
    go_ret
    exact ⟨_, rfl, Below.refl _ _, isB_false fun h => hn (by rw [h])⟩

theorem infoNode : (Try.prog.info? 49).map (fun i => (i.zero, i.size, i.bytes)) = some (some (.agg #[.string ByteArray.empty, .slice none 0 0]), 2, 40) := by kernel_rfl
set_option maxHeartbeats 1000000 in
set_option maxRecDepth 20000 in
theorem nodes_any (a : Option Addr) (c : Nat) (l : List NodeD) (w : World) (hn : NodesAt w a l) (hl : l.length ≤ 1048576) :
    Calls Try.prog 14 #[.slice a l.length c] w (Ret w fun v w' => ∃ a' c', v = .slice a' l.length c' ∧ NodesAt w' a' l) := by
  have HN := Lib.hid hn
  clear hn
  go_enter Try.func14, Try.ntmps14
  go_wp2_with fail
  go_loopw [3, 4] (fun o i wq => ∃ (k : Nat) (aq : Option Addr) (cq : Nat), k ≤ l.length ∧ i = .int .i64 k ∧ o = .slice aq k cq ∧ Hid (Own wq w.heap.size 49 2 aq k cq ((l.take k).flatMap NodeD.cells)) ∧ Hid (Below w.heap.size w wq)) (fun _ i _ => l.length - (intOf i).toNat)
  case atStart => exact ⟨0, none, 0, Nat.zero_le _, rfl, rfl, Lib.hid (by simpa using Own.nil _ _ _ _), Lib.hid (Below.refl _ _)⟩
  case round =>
    obtain ⟨k, aq, cq, hk, rfl, rfl, hown, hb⟩ := hrel
    by_cases hlt : k < l.length
    · obtain ⟨d, hd⟩ := get_some hlt
      obtain ⟨b, off, rfl, k0, k1, -, -⟩ := node_at (HN.out.ext hb.out) hd
      have Hd := Lib.hid hd
      have hws := hb.out.size
      have u0 := below_ext ((below_a1 wr (.cells #[.string ⟨d.name.toArray⟩, .slice d.a d.calls.length d.c] 49)).drew) k0
      have u1 := below_ext ((below_a1 wr (.cells #[.string ⟨d.name.toArray⟩, .slice d.a d.calls.length d.c] 49)).drew) k1
      clear hd
      go_wp2_with fail
      refine wp_region_held_drew (S := fun w' => w'.cell? ⟨b, off + k * 2, none⟩ = some (.string ⟨d.name.toArray⟩) ∧ w'.cell? ⟨b, off + k * 2 + 1, none⟩ = some (.slice d.a d.calls.length d.c)) (by kernel_rfl) ?_ (fun hHeld => ?_)
      · exact ⟨k0, k1⟩
      refine wpAnyH_take (i := 0) (oi := ⟨some 11, _, _, _, _, _⟩) (v := ?_) rfl (by kernel_rfl) (by kernel_rfl) (by kernel_rfl) (fun _ _ _ h => h) (Or.inl ⟨by rfl, ?_⟩) (by assumption) ?_; rotate_left; focus (intro w hSw; (try dsimp only at hSw); first | (go_simp; done) | (go_simp; with_reducible rfl))
      try simp only [Act.put]
      try simp only [List.setIfInBounds_toArray]
      try simp only [List.set_cons_succ, List.set_cons_zero]
      refine wpAnyH_take (i := 1) (oi := ⟨some 12, _, _, _, _, _⟩) (v := ?_) rfl (by kernel_rfl) (by kernel_rfl) (by kernel_rfl) (fun _ _ _ h => h) (Or.inl ⟨by rfl, ?_⟩) (by assumption) ?_; rotate_left; focus (intro w hSw; (try dsimp only at hSw); first | (go_simp; done) | (go_simp; with_reducible rfl))
      try simp only [Act.put]
      try simp only [List.setIfInBounds_toArray]
      try simp only [List.set_cons_succ, List.set_cons_zero]
      refine wpAnyH_take (i := 2) (oi := ⟨some 13, _, _, _, _, _⟩) (v := ?_) rfl (by kernel_rfl) (by kernel_rfl) (by kernel_rfl) (fun _ _ _ h => h) (Or.inl ⟨by rfl, ?_⟩) (by assumption) ?_; rotate_left; focus (intro w hSw; (try dsimp only at hSw); first | (go_simp; done) | (go_simp; with_reducible rfl))
      try simp only [Act.put]
      try simp only [List.setIfInBounds_toArray]
      try simp only [List.set_cons_succ, List.set_cons_zero]
      refine wpAnyH_take (i := 3) (oi := ⟨some 14, _, _, _, _, _⟩) (v := ?_) rfl (by kernel_rfl) (by kernel_rfl) (by kernel_rfl) (fun _ _ _ h => h) (Or.inl ⟨by rfl, ?_⟩) (by assumption) ?_; rotate_left; focus (intro w hSw; (try dsimp only at hSw); first | (go_simp; done) | (go_simp; with_reducible rfl))
      try simp only [Act.put]
      try simp only [List.setIfInBounds_toArray]
      try simp only [List.set_cons_succ, List.set_cons_zero]
      refine wpAnyH_take (i := 4) (oi := ⟨some 15, _, _, _, _, _⟩) (v := ?_) rfl (by kernel_rfl) (by kernel_rfl) (by kernel_rfl) (fun _ _ _ h => h) (Or.inl ⟨by rfl, ?_⟩) (by assumption) ?_; rotate_left; focus (intro w hSw; (try dsimp only at hSw); first | (go_simp; done) | (go_simp; with_reducible rfl))
      try simp only [Act.put]
      try simp only [List.setIfInBounds_toArray]
      try simp only [List.set_cons_succ, List.set_cons_zero]
      refine wpAnyH_take (i := 5) (oi := ⟨some 16, _, _, _, _, _⟩) (v := ?_) rfl (by kernel_rfl) (by kernel_rfl) (by kernel_rfl) (fun _ _ _ h => h) (Or.inl ⟨by rfl, ?_⟩) (by assumption) ?_; rotate_left; focus (intro w hSw; (try dsimp only at hSw); first | (go_simp; done) | (go_simp; with_reducible rfl))
      try simp only [Act.put]
      try simp only [List.setIfInBounds_toArray]
      try simp only [List.set_cons_succ, List.set_cons_zero]
      refine wpAnyH_take (i := 6) (oi := ⟨some 17, _, _, _, _, _⟩) (v := ?_) rfl (by kernel_rfl) (by kernel_rfl) (by kernel_rfl) (fun _ _ _ h => h) (Or.inl ⟨by rfl, ?_⟩) (by assumption) ?_; rotate_left; focus (intro w hSw; (try dsimp only at hSw); first | (go_simp; done) | (go_simp; with_reducible rfl))
      try simp only [Act.put]
      try simp only [List.setIfInBounds_toArray]
      try simp only [List.set_cons_succ, List.set_cons_zero]
      refine wpAnyH_take (i := 7) (oi := ⟨some 18, _, _, _, _, _⟩) (v := ?_) rfl (by kernel_rfl) (by kernel_rfl) (by kernel_rfl) (fun _ _ _ h => h) (Or.inl ⟨by rfl, ?_⟩) (by assumption) ?_; rotate_left; focus (intro w hSw; (try dsimp only at hSw); first | (go_simp; done) | (go_simp; with_reducible rfl))
      try simp only [Act.put]
      try simp only [List.setIfInBounds_toArray]
      try simp only [List.set_cons_succ, List.set_cons_zero]
      refine wpAnyH_take (i := 8) (oi := ⟨some 19, _, _, _, _, _⟩) (v := ?_) rfl (by kernel_rfl) (by kernel_rfl) (by kernel_rfl) (fun _ _ _ h => h) (Or.inl ⟨by rfl, ?_⟩) (by assumption) ?_; rotate_left; focus (intro w hSw; (try dsimp only at hSw); first | (go_simp; done) | (go_simp; with_reducible rfl))
      try simp only [Act.put]
      try simp only [List.setIfInBounds_toArray]
      try simp only [List.set_cons_succ, List.set_cons_zero]
      refine wpAnyH_take (i := 9) (oi := ⟨some 20, _, _, _, _, _⟩) (v := ?_) rfl (by kernel_rfl) (by kernel_rfl) (by kernel_rfl) (fun _ _ _ h => h) (Or.inl ⟨by rfl, ?_⟩) (by assumption) ?_; rotate_left; focus (intro w hSw; (try dsimp only at hSw); first | (go_simp; done) | (go_simp; with_reducible rfl))
      try simp only [Act.put]
      try simp only [List.setIfInBounds_toArray]
      try simp only [List.set_cons_succ, List.set_cons_zero]
      refine wpAnyH_take (i := 10) (oi := ⟨some 21, _, _, _, _, _⟩) (v := ?_) rfl (by kernel_rfl) (by kernel_rfl) (by kernel_rfl) (fun _ _ _ h => h) (Or.inl ⟨by rfl, ?_⟩) (by assumption) ?_; rotate_left; focus (intro w hSw; (try dsimp only at hSw); first | (go_simp; done) | (go_simp; with_reducible rfl))
      try simp only [Act.put]
      try simp only [List.setIfInBounds_toArray]
      try simp only [List.set_cons_succ, List.set_cons_zero]
      refine wpAnyH_take (i := 11) (oi := ⟨some 22, _, _, _, _, _⟩) (v := ?_) rfl (by kernel_rfl) (by kernel_rfl) (by kernel_rfl) (fun _ _ _ h => h) (Or.inl ⟨by rfl, ?_⟩) (by assumption) ?_; rotate_left; focus (intro w hSw; (try dsimp only at hSw); first | (go_simp; done) | (go_simp; with_reducible rfl))
      try simp only [Act.put]
      try simp only [List.setIfInBounds_toArray]
      try simp only [List.set_cons_succ, List.set_cons_zero]
      refine wpAnyH_ready (rs := [12]) (by kernel_rfl) (by simp) ?_
      refine AllReadyH.cons (i := 12) (o := ⟨some 23, _, _, _, _, _⟩) rfl (fun K hK => ?_) ?_
      · go_simp
        refine hK.out _ _ ?_ (fun hHeld => ?_)
        · exact ⟨u0, u1⟩
        try simp only [Act.put]
        try simp only [List.setIfInBounds_toArray]
        try simp only [List.set_cons_succ, List.set_cons_zero]
        refine wpAnyH_ready (rs := [13]) (by kernel_rfl) (by simp) ?_
        refine AllReadyH.cons (i := 13) (o := ⟨some 24, _, _, _, _, _⟩) rfl (fun K hK => ?_) ?_
        · refine step_append_Own rfl (.tmp 11) (.tmp 23) 34 rfl w.heap.size 49 _ 2 40 Try.underlying34 infoNode rfl (by decide) aq k cq _ (by simp [go_sem]) (by exact hown.out.alloc _) _ 1 1 d.cells (by simp [go_sem]; rfl) (by exact Row.new1 (by simp) rfl rfl) (by intro u hu; simp [NodeD.cells] at hu; rcases hu with rfl | rfl <;> rfl) (by unfold maxLen; omega) (by omega) (by simp; omega) ?_
          intro a5 c5 w5 hown5 hg5 hbk5
          have hb5 := ((hb.out.alloc hws (.cells #[.string ⟨d.name.toArray⟩, .slice d.a d.calls.length d.c] 49)).drew).grown hg5 (by simp; omega) (fun j hj => hown.out.rowBase (Nat.le_refl _) j hj)
          have hn5 := node_at (HN.out.ext hb5) Hd.out
          have y0 : w5.cell? ⟨b, off + k * 2, none⟩ = some (.string ⟨d.name.toArray⟩) := by obtain ⟨b2, o2, e2, h1, h2, -⟩ := hn5; cases e2; exact h1
          have y1 : w5.cell? ⟨b, off + k * 2 + 1, none⟩ = some (.slice d.a d.calls.length d.c) := by obtain ⟨b2, o2, e2, h1, h2, -⟩ := hn5; cases e2; exact h2
          have H5 := Lib.hid (And.intro hown5 hb5)
          clear hown5 hb5 hg5 hbk5 hn5
          refine hK.out _ _ ?_ (fun hHeld => ?_)
          · exact ⟨y0, y1⟩
          try simp only [Act.put]
          try simp only [List.setIfInBounds_toArray]
          try simp only [List.set_cons_succ, List.set_cons_zero]
          refine wpAnyH_take (i := 14) (oi := ⟨some 3, _, _, _, _, _⟩) (v := ?_) rfl (by kernel_rfl) (by kernel_rfl) (by kernel_rfl) (fun _ _ _ h => h) (Or.inl ⟨by rfl, ?_⟩) (by assumption) ?_; rotate_left; focus (intro w hSw; (try dsimp only at hSw); first | (go_simp; done) | (go_simp; with_reducible rfl))
          try simp only [Act.put]
          try simp only [List.setIfInBounds_toArray]
          try simp only [List.set_cons_succ, List.set_cons_zero]
          refine wpAnyH_done (by kernel_rfl) ?_ _
          clear hHeld y0 y1 u0 u1 k0 k1
          go_wp2
          go_roundw
          case rel => exact ⟨k + 1, a5, c5, by omega, by go_num, rfl, Lib.hid (by rw [List.take_add_one, Hd.out, List.flatMap_append]; simpa using H5.out.1), Lib.hid H5.out.2⟩
          case measure => simp [intOf]; omega
        exact AllReadyH.nil
      exact AllReadyH.nil
    · obtain rfl : k = l.length := by omega
      go_wp2
      go_ret
      refine ⟨_, rfl, hb.out, aq, cq, rfl, ?_, fun d hd => (HN.out.2 d hd).ext hb.out⟩
      have := hown.out.row
      rw [List.take_length] at this; exact this

/-- a bool -/
def AB (v : Value) (_ : World) : Prop := ∃ b, v = .bool b
set_option maxHeartbeats 1000000 in
theorem fits_any (a : Option Addr) (c : Nat) (l : List NodeD) (w : World) (hn : NodesAt w a l) (hl : l.length ≤ 1048576) (hc : ∀ d ∈ l, d.calls.length ≤ 1048576) :
    Calls Try.prog 12 #[.slice a l.length c] w (Ret w AB) := by
  have HN := Lib.hid hn
  have HC := Lib.hid hc
  clear hn hc
  go_enter Try.func12, Try.ntmps12
  go_wp2_with fail
  go_loop [3, 4] (fun n i => ∃ (k m : Nat), k ≤ l.length ∧ k ≤ 31 ∧ m ≤ 1048576 + k * 1048576 ∧ i = .int .i64 k ∧ n = .int .i64 m) (fun _ i => l.length - (intOf i).toNat)
  case atStart => exact ⟨0, l.length, Nat.zero_le _, by omega, by omega, rfl, rfl⟩
  case round =>
    obtain ⟨k, m, hk, hk2, hm, rfl, rfl⟩ := hrel
    by_cases hlt : k < l.length
    · obtain ⟨d, hd⟩ := get_some hlt
      obtain ⟨b, off, rfl, -, k1, -, -⟩ := node_at HN.out hd
      have hdl := HC.out d (List.mem_of_getElem? hd)
      clear hd
      by_cases h31 : k ≤ 30
      · go_wp2
        go_round
        case rel => exact ⟨k + 1, m + d.calls.length, by omega, by omega, by omega, by go_num, by go_num⟩
        case measure => simp [intOf]; omega
      · go_wp2
        all_goals (go_ret; exact ⟨_, rfl, Below.refl _ _, _, rfl⟩)
    · obtain rfl : k = l.length := by omega
      go_wp2
      all_goals (go_ret; exact ⟨_, rfl, Below.refl _ _, _, rfl⟩)
end Go.Proofs.Ytnepamdmjppglaa
