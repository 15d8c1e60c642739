/- The document's answer, walked: Users, Groups. -/
import Derived.Test.YtnepamdmjppglaaRef3
namespace Go.Proofs.Ytnepamdmjppglaa
open Go Go.RowKit Go.Sort

set_option maxHeartbeats 2000000 in
set_option maxRecDepth 20000 in
theorem usersR_any (a an : Option Addr) (c cn : Nat) (l : List NodeD) (st : List Nm) (w : World) (hn : NodesAt w a l) (hl : SmallN l) (hs : Row w 1 an st.length (st.map strV)) (hsl : st.length ≤ 4194304) :
    Calls Try.prog 20 #[.slice a l.length c, .slice an st.length cn] w (Ret w (RisR (fun x => x ∈ names l ∧ ∃ n ∈ st, Rch (G l) x n) l.length)) := by
  have hnames := namesR_any a c l w hn hl.len
  have HN := Lib.hid hn
  have HL := Lib.hid hl
  have HS := Lib.hid hs
  have hlen : l.length ≤ 1048576 := hl.len
  clear hn hl hs
  go_enter Try.func20, Try.ntmps20
  go_wp2_with fail
  refine hnames.mono ?_
  clear hnames
  rintro e w1 ⟨_, rfl, hb1, ns, a1, c1, rfl, hrow, hris, hmem, hnl⟩
  have Hrow := Lib.hid hrow
  have Hris := Lib.hid hris
  have Hmem := Lib.hid hmem
  have Hb1 := Lib.hid hb1
  clear hrow hris hmem hb1
  obtain ⟨ar0, har⟩ : ∃ ar0, ar0 = a1 := ⟨_, rfl⟩
  rw [← har]
  have Har := Lib.hid har
  clear har
  go_wp2_with fail
  go_loopw [5, 7] (fun o i wq => ∃ (k : Nat) (q : List Nm) (aq : Option Addr) (cq : Nat), k ≤ ns.length ∧ i = .int .i64 k ∧ o = .slice aq q.length cq ∧ Hid (Own wq w1.heap.size 9 1 aq q.length cq (q.map strV)) ∧ Hid (q.Pairwise fun x y => x < y) ∧ Hid (∀ y, y ∈ q ↔ y ∈ ns.take k ∧ ∃ n ∈ st, Rch (G l) y n) ∧ q.length ≤ k ∧ Hid (Below w1.heap.size w1 wq)) (fun _ i _ => ns.length - (intOf i).toNat)
  case atStart => exact ⟨0, [], none, 0, Nat.zero_le _, rfl, rfl, Lib.hid (Own.nil _ _ _ _), Lib.hid (by simp), Lib.hid (by simp), Nat.zero_le _, Lib.hid (Below.refl _ _)⟩
  case round =>
    obtain ⟨k, q, aq, cq, hk, rfl, rfl, hown, hqr, hm, hql, hb⟩ := hrel
    have hbw := Hb1.out.trans (hb.out.mono Hb1.out.size)
    have Hbw := Lib.hid hbw
    clear hbw
    by_cases hlt : k < ns.length
    · obtain ⟨y, hy⟩ := get_some hlt
      have hrr := (Hrow.out.ext hb.out).1
      rw [← Har.out] at hrr
      obtain ⟨b2, o2, e2, c2⟩ := str_at hrr hy
      clear hrr Har
      subst e2
      have hh := has_any an cn st y wr (HS.out.ext Hbw.out) (by omega)
      have hre := reachR_any a c l y wr (HN.out.ext Hbw.out) HL.out
      obtain ⟨b1, hb1⟩ : ∃ b1, b1 = decide (y ∈ st) := ⟨_, rfl⟩
      rw [← hb1] at hh
      have HB1 := Lib.hid hb1
      have Hh := Lib.hid hh
      have Hre := Lib.hid hre
      have Hy := Lib.hid hy
      clear hre hh hy hb1
      go_wp2_with fail
      refine Hh.out.mono ?_
      clear Hh
      rintro e w' ⟨rfl, rfl⟩
      go_wp2_with fail
      refine Hre.out.mono ?_
      clear Hre
      rintro e w3 ⟨_, rfl, hb3, r, a3, c3, rfl, hrow3, -, hm3, hl3⟩
      have Hrow3 := Lib.hid hrow3
      have Hm3 := Lib.hid hm3
      have Hb3 := Lib.hid hb3
      have c2' := below_ext hb3 c2
      obtain ⟨a30, ha3⟩ : ∃ a30, a30 = a3 := ⟨_, rfl⟩
      rw [← ha3]
      have Ha3 := Lib.hid ha3
      have Hc2 := Lib.hid c2'
      clear hrow3 hm3 hb3 ha3 c2 c2'
      go_wp2_with fail
      go_loopw [8, 10] (fun am i wq => ∃ (k2 : Nat) (b : Bool), k2 ≤ r.length ∧ i = .int .i64 k2 ∧ am = .bool b ∧ Hid (b = true ↔ y ∈ st ∨ ∃ n ∈ r.take k2, n ∈ st) ∧ Hid (Below w3.heap.size w3 wq)) (fun _ i _ => r.length - (intOf i).toNat)
      case atStart => exact ⟨0, b1, Nat.zero_le _, rfl, rfl, Lib.hid (by rw [HB1.out]; simp), Lib.hid (Below.refl _ _)⟩
      case round =>
        obtain ⟨k2, b, hk2, rfl, rfl, hbm, hb4⟩ := hrel
        by_cases hlt2 : k2 < r.length
        · obtain ⟨z, hz⟩ := get_some hlt2
          have hrr := (Hrow3.out.ext hb4.out).1
          rw [← Ha3.out] at hrr
          obtain ⟨b5, o5, e5, c5⟩ := str_at hrr hz
          have Ha35 : Hid (some ⟨b5, o5, none⟩ = a3) := Lib.hid (by rw [← e5]; exact Ha3.out)
          clear hrr Ha3
          subst e5
          have hh := has_any an cn st z wr ((HS.out.ext Hbw.out).ext ((Hb3.out).trans (hb4.out.mono Hb3.out.size))) (by omega)
          obtain ⟨bz, hbz⟩ : ∃ bz, bz = decide (z ∈ st) := ⟨_, rfl⟩
          rw [← hbz] at hh
          have HBz := Lib.hid hbz
          have Hh := Lib.hid hh
          have Hz := Lib.hid hz
          clear hh hbz hz
          go_wp2_with fail
          refine Hh.out.mono ?_
          clear Hh
          rintro e w' ⟨rfl, rfl⟩
          have Hnew : Hid ((b || bz) = true ↔ y ∈ st ∨ ∃ n ∈ r.take (k2 + 1), n ∈ st) := Lib.hid (by
            rw [List.take_add_one, Hz.out, Bool.or_eq_true, hbm.out, HBz.out, decide_eq_true_iff]
            constructor
            · rintro ((h | ⟨n, h1, h2⟩) | h)
              · exact .inl h
              · exact .inr ⟨n, by simp [h1], h2⟩
              · exact .inr ⟨z, by simp, h⟩
            · rintro (h | ⟨n, h1, h2⟩)
              · exact .inl (.inl h)
              · rw [List.mem_append] at h1
                rcases h1 with h1 | h1
                · exact .inl (.inr ⟨n, h1, h2⟩)
                · simp at h1; subst h1; exact .inr h2)
          cases b
          · go_wp2
            go_roundw
            case rel => exact ⟨k2 + 1, bz, by omega, by go_num, rfl, Lib.hid (by have := Hnew.out; simpa using this), hb4⟩
            case measure => simp [intOf]; omega
          · go_wp2
            go_roundw
            case rel => exact ⟨k2 + 1, true, by omega, by go_num, rfl, Lib.hid (by have := Hnew.out; simpa using this), hb4⟩
            case measure => simp [intOf]; omega
        · obtain rfl : k2 = r.length := by omega
          have hP : b = true ↔ ∃ n ∈ st, Rch (G l) y n := by
            rw [hbm.out, List.take_length]
            constructor
            · rintro (h | ⟨n, h1, h2⟩)
              · exact ⟨y, h, .refl _⟩
              · exact ⟨n, h2, rch_of ((Hm3.out n).1 h1)⟩
            · rintro ⟨n, h1, h2⟩
              rcases rch_head h2 with rfl | h3
              · exact .inl h1
              · exact .inr ⟨n, (Hm3.out n).2 h3, h1⟩
          have HP := Lib.hid hP
          have hkk : ∀ z, z ∈ ns.take (k + 1) ↔ z ∈ ns.take k ∨ z = y := fun z => by rw [List.take_add_one, Hy.out]; simp
          have Hkk := Lib.hid hkk
          have hown4 := (hown.out.ext Hb3.out).ext hb4.out
          have hb14 := (hb.out.trans (Hb3.out.mono hb.out.size)).trans (hb4.out.mono (Nat.le_trans hb.out.size Hb3.out.size))
          have c4 := below_ext hb4.out Hc2.out
          have Hown4 := Lib.hid hown4
          have Hb14 := Lib.hid hb14
          have hs14 := hb14.size
          have Hbm := hbm
          clear hP hkk hown4 hb14 hbm
          cases b
          · go_wp2
            go_roundw
            case rel =>
              refine ⟨k + 1, q, aq, cq, by omega, by go_num, rfl, Hown4, hqr, Lib.hid fun z => ?_, by omega, Hb14⟩
              rw [hm.out z, Hkk.out z]
              constructor
              · rintro ⟨h1, h2⟩; exact ⟨.inl h1, h2⟩
              · rintro ⟨h1 | rfl, h2⟩
                · exact ⟨h1, h2⟩
                · exact absurd (HP.out.2 h2) (by simp)
            case measure => simp [intOf]; omega
          · go_wp2_with (at_builtin; refine wpList_append_Own rfl _ _ 28 rfl w1.heap.size 9 _ 1 16 Try.underlying28 infoStr rfl (by decide) aq q.length cq _ rfl (by exact Hown4.out.alloc _) _ 1 1 [strV y] rfl (Row.new1 (by simp) rfl rfl) (by intro u hu; simp at hu; subst hu; rfl) (by unfold maxLen; omega) (by omega) (by simp; omega) ?_; intro a6 c6 w6 hown6 hg6 hbk6)
            have hb6 := (Hb14.out.alloc hs14 (.cells #[.string ⟨y.toArray⟩] 9)).grown hg6 (by simp; omega) (fun j hj => Hown4.out.rowBase (Nat.le_refl _) j hj)
            have H6 := Lib.hid (And.intro hown6 hb6)
            clear hown6 hb6 hg6 hbk6
            go_roundw
            case rel =>
              refine ⟨k + 1, q ++ [y], a6, c6, by omega, by go_num, by rw [List.length_append]; rfl, Lib.hid (by rw [List.length_append, List.map_append]; exact H6.out.1), Lib.hid ?_, Lib.hid fun z => ?_, by rw [List.length_append]; simp; omega, Lib.hid H6.out.2⟩
              · rw [List.pairwise_append]
                refine ⟨hqr.out, by simp, fun u hu v hv => ?_⟩
                simp at hv; subst hv
                obtain ⟨j, hj⟩ := List.getElem?_of_mem ((hm.out u).1 hu).1
                rw [List.getElem?_take] at hj
                split at hj
                · rename_i hjk
                  have h1 := List.pairwise_iff_getElem.1 Hris.out j k (get_lt hj) (get_lt Hy.out) hjk
                  have h2 := Hy.out
                  rw [List.getElem?_eq_getElem (get_lt hj)] at hj
                  rw [List.getElem?_eq_getElem (get_lt Hy.out)] at h2
                  rw [Option.some.inj hj, Option.some.inj h2] at h1
                  exact h1
                · cases hj
              · rw [List.mem_append, hm.out z, Hkk.out z]
                constructor
                · rintro (⟨h1, h2⟩ | h)
                  · exact ⟨.inl h1, h2⟩
                  · simp at h; subst h; exact ⟨.inr rfl, HP.out.1 rfl⟩
                · rintro ⟨h1 | rfl, h2⟩
                  · exact .inl ⟨h1, h2⟩
                  · exact .inr (by simp)
            case measure => simp [intOf]; omega
    · obtain rfl : k = ns.length := by omega
      go_wp2
      go_ret
      exact ⟨_, rfl, Hbw.out, q, aq, cq, rfl, ⟨hown.out.row, hown.out.le⟩, hqr.out, fun z => by rw [hm.out z, List.take_length, Hmem.out z], by omega⟩
end Go.Proofs.Ytnepamdmjppglaa
