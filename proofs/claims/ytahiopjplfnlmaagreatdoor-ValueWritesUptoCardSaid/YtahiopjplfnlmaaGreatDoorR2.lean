/- scalar, walked. -/
import Derived.Test.YtahiopjplfnlmaaGreatDoorR1
namespace Go.Proofs.YtahiopjplfnlmaaGreatDoor
open Go Go.RowKit
set_option maxRecDepth 100000 in
set_option maxHeartbeats 4000000 in
theorem scalar_any (s : ByteArray) (w : World) (h0 : 0 < s.size) (hs : s.size ≤ 1048576) : Calls Tryz.prog 67 #[.string s] w (fun e w' => ScalR (headR s.data.toList) e ∧ w' = w) := by
  have hh := headR_of h0
  have hb := s[0].toNat_lt
  generalize headR s.data.toList = p at *
  have h0i : (0 : Int) < s.size := by omega
  by_cases c1 : s[0].toNat < 128
  · rw [if_pos c1] at hh
    have HH := Lib.hid hh
    clear hh
    go_enter Tryz.func67, Tryz.ntmps67
    go_wp2
    all_goals (go_ret2; exact ⟨scalR_mk (by rw [HH.out]) (by rw [HH.out]; rfl), rfl⟩)
  · rw [if_neg c1] at hh
    by_cases c2 : 192 ≤ s[0].toNat ∧ s[0].toNat < 224
    · have hlead : leadR s[0].toNat = (2, 128, s[0].toNat - 192) := by unfold leadR; rw [if_pos c2]
      rw [hlead] at hh
      simp only at hh
      obtain ⟨ca, cb⟩ := c2
      clear hlead c1
      by_cases d : s.size < 2
      · rw [if_pos (.inr d)] at hh
        have HH := Lib.hid hh
        have di : (s.size : Int) < 2 := by omega
        clear hh
        go_enter Tryz.func67, Tryz.ntmps67
        go_wp2
        all_goals (go_ret2; exact ⟨scalR_mk (by rw [HH.out]; rfl) (by rw [HH.out]; rfl), rfl⟩)
      · have hne : ¬ ((2 : Nat) = 0 ∨ s.size < 2) := by omega
        rw [if_neg hne] at hh
        have HH := Lib.hid hh
        have di : (2 : Int) ≤ s.size := by omega
        have dn : 2 ≤ s.size := by omega
        have HT : Hid (∀ k, k < s.size → k < 2 → ∃ h : k < s.size, Tail s k 2 = s[k] :: Tail s (k + 1) 2) := Lib.hid fun k h1 h2 => ⟨h1, tail_step h1 h2⟩
        clear hh hne
        go_enter Tryz.func67, Tryz.ntmps67
        go_wp2_with fail
        go_loop [4, 7] (fun c i => ∃ k cv : Nat, 1 ≤ k ∧ k ≤ 2 ∧ i = .int .i64 k ∧ c = .int .i64 cv ∧ ((k = 1 ∧ cv ≤ 31) ∨ (k = 2 ∧ cv ≤ 2047) ∨ (k = 3 ∧ cv ≤ 131071) ∨ (k = 4 ∧ cv ≤ 8388607)) ∧ Hid (contR (s[0].toNat - 192) (Tail s 1 2) = contR cv (Tail s k 2))) (fun _ i => 2 - (intOf i).toNat)
        case atStart => exact ⟨1, s[0].toNat - 192, by omega, by omega, rfl, by congr 1; omega, by omega, Lib.hid rfl⟩
        case round =>
          obtain ⟨k, cv, hk1, hk2, rfl, rfl, hcv, hq⟩ := hrel
          by_cases hlt : k < 2
          · have hks : k < s.size := by omega
            obtain ⟨hks2, ht⟩ := HT.out k hks hlt
            have hx := s[k].toNat_lt
            have hq2 := hq.out
            rw [ht] at hq2
            simp only [contR] at hq2
            clear ht
            by_cases d1 : s[k].toNat < 128 ∨ 192 ≤ s[k].toNat
            · rw [if_pos d1] at hq2
              have hp : p = (0, 0) := by rw [HH.out, hq2]
              have Hp := Lib.hid hp
              clear hp hq2 HH
              rcases d1 with d1 | d1
              · (go_wp2; all_goals (go_ret2; exact ⟨scalR_mk (by rw [Hp.out]; rfl) (by rw [Hp.out]; rfl), rfl⟩))
              · (go_wp2; all_goals (go_ret2; exact ⟨scalR_mk (by rw [Hp.out]; rfl) (by rw [Hp.out]; rfl), rfl⟩))
            · rw [if_neg d1] at hq2
              have d2 : 128 ≤ s[k].toNat := by omega
              have d3 : s[k].toNat < 192 := by omega
              have Hq := Lib.hid hq2
              clear hq2 d1
              go_wp2
              go_round
              case rel => exact ⟨_, _, _, _, ⟨k + 1, by omega, by omega, by go_num, 64 * cv + s[k].toNat - 128, by congr 1; omega, by omega, Hq⟩, rfl, rfl, rfl, rfl⟩
              case measure => simp [intOf]; omega
          · obtain rfl : k = 2 := by omega
            have hq2 := hq.out
            rw [tail_end] at hq2
            simp only [contR] at hq2
            have hp := HH.out
            rw [hq2] at hp
            simp only at hp
            clear hq2 HH hq HT
            by_cases e : cv < 128 ∨ 1114111 < cv ∨ (55296 ≤ cv ∧ cv ≤ 57343)
            · rw [if_pos e] at hp
              have Hp := Lib.hid hp
              clear hp
              by_cases e1 : cv < 128
              · (go_wp2; all_goals (go_ret2; exact ⟨scalR_mk (by rw [Hp.out]; rfl) (by rw [Hp.out]; rfl), rfl⟩))
              · by_cases e2 : 1114111 < cv
                · (go_wp2; all_goals (go_ret2; exact ⟨scalR_mk (by rw [Hp.out]; rfl) (by rw [Hp.out]; rfl), rfl⟩))
                · have e3 : 55296 ≤ cv := by omega
                  have e4 : cv ≤ 57343 := by omega
                  clear e
                  go_wp2
                  all_goals (go_ret2; exact ⟨scalR_mk (by rw [Hp.out]; rfl) (by rw [Hp.out]; rfl), rfl⟩)
            · rw [if_neg e] at hp
              have Hp := Lib.hid hp
              have e1 : 128 ≤ cv := by omega
              have e2 : cv ≤ 1114111 := by omega
              clear hp
              by_cases e3 : 55296 ≤ cv
              · have e4 : 57343 < cv := by omega
                clear e
                go_wp2
                all_goals (go_ret2; exact ⟨scalR_mk (by rw [Hp.out]) (by rw [Hp.out]; rfl), rfl⟩)
              · clear e
                go_wp2
                all_goals (go_ret2; exact ⟨scalR_mk (by rw [Hp.out]) (by rw [Hp.out]; rfl), rfl⟩)
    by_cases c3 : 224 ≤ s[0].toNat ∧ s[0].toNat < 240
    · have hlead : leadR s[0].toNat = (3, 2048, s[0].toNat - 224) := by unfold leadR; rw [if_neg c2]; rw [if_pos c3]
      rw [hlead] at hh
      simp only at hh
      obtain ⟨ca, cb⟩ := c3
      clear hlead c1
      by_cases d : s.size < 3
      · rw [if_pos (.inr d)] at hh
        have HH := Lib.hid hh
        have di : (s.size : Int) < 3 := by omega
        clear hh
        go_enter Tryz.func67, Tryz.ntmps67
        go_wp2
        all_goals (go_ret2; exact ⟨scalR_mk (by rw [HH.out]; rfl) (by rw [HH.out]; rfl), rfl⟩)
      · have hne : ¬ ((3 : Nat) = 0 ∨ s.size < 3) := by omega
        rw [if_neg hne] at hh
        have HH := Lib.hid hh
        have di : (3 : Int) ≤ s.size := by omega
        have dn : 3 ≤ s.size := by omega
        have HT : Hid (∀ k, k < s.size → k < 3 → ∃ h : k < s.size, Tail s k 3 = s[k] :: Tail s (k + 1) 3) := Lib.hid fun k h1 h2 => ⟨h1, tail_step h1 h2⟩
        clear hh hne
        go_enter Tryz.func67, Tryz.ntmps67
        go_wp2_with fail
        go_loop [4, 7] (fun c i => ∃ k cv : Nat, 1 ≤ k ∧ k ≤ 3 ∧ i = .int .i64 k ∧ c = .int .i64 cv ∧ ((k = 1 ∧ cv ≤ 31) ∨ (k = 2 ∧ cv ≤ 2047) ∨ (k = 3 ∧ cv ≤ 131071) ∨ (k = 4 ∧ cv ≤ 8388607)) ∧ Hid (contR (s[0].toNat - 224) (Tail s 1 3) = contR cv (Tail s k 3))) (fun _ i => 3 - (intOf i).toNat)
        case atStart => exact ⟨1, s[0].toNat - 224, by omega, by omega, rfl, by congr 1; omega, by omega, Lib.hid rfl⟩
        case round =>
          obtain ⟨k, cv, hk1, hk2, rfl, rfl, hcv, hq⟩ := hrel
          by_cases hlt : k < 3
          · have hks : k < s.size := by omega
            obtain ⟨hks2, ht⟩ := HT.out k hks hlt
            have hx := s[k].toNat_lt
            have hq2 := hq.out
            rw [ht] at hq2
            simp only [contR] at hq2
            clear ht
            by_cases d1 : s[k].toNat < 128 ∨ 192 ≤ s[k].toNat
            · rw [if_pos d1] at hq2
              have hp : p = (0, 0) := by rw [HH.out, hq2]
              have Hp := Lib.hid hp
              clear hp hq2 HH
              rcases d1 with d1 | d1
              · (go_wp2; all_goals (go_ret2; exact ⟨scalR_mk (by rw [Hp.out]; rfl) (by rw [Hp.out]; rfl), rfl⟩))
              · (go_wp2; all_goals (go_ret2; exact ⟨scalR_mk (by rw [Hp.out]; rfl) (by rw [Hp.out]; rfl), rfl⟩))
            · rw [if_neg d1] at hq2
              have d2 : 128 ≤ s[k].toNat := by omega
              have d3 : s[k].toNat < 192 := by omega
              have Hq := Lib.hid hq2
              clear hq2 d1
              go_wp2
              go_round
              case rel => exact ⟨_, _, _, _, ⟨k + 1, by omega, by omega, by go_num, 64 * cv + s[k].toNat - 128, by congr 1; omega, by omega, Hq⟩, rfl, rfl, rfl, rfl⟩
              case measure => simp [intOf]; omega
          · obtain rfl : k = 3 := by omega
            have hq2 := hq.out
            rw [tail_end] at hq2
            simp only [contR] at hq2
            have hp := HH.out
            rw [hq2] at hp
            simp only at hp
            clear hq2 HH hq HT
            by_cases e : cv < 2048 ∨ 1114111 < cv ∨ (55296 ≤ cv ∧ cv ≤ 57343)
            · rw [if_pos e] at hp
              have Hp := Lib.hid hp
              clear hp
              by_cases e1 : cv < 2048
              · (go_wp2; all_goals (go_ret2; exact ⟨scalR_mk (by rw [Hp.out]; rfl) (by rw [Hp.out]; rfl), rfl⟩))
              · by_cases e2 : 1114111 < cv
                · (go_wp2; all_goals (go_ret2; exact ⟨scalR_mk (by rw [Hp.out]; rfl) (by rw [Hp.out]; rfl), rfl⟩))
                · have e3 : 55296 ≤ cv := by omega
                  have e4 : cv ≤ 57343 := by omega
                  clear e
                  go_wp2
                  all_goals (go_ret2; exact ⟨scalR_mk (by rw [Hp.out]; rfl) (by rw [Hp.out]; rfl), rfl⟩)
            · rw [if_neg e] at hp
              have Hp := Lib.hid hp
              have e1 : 2048 ≤ cv := by omega
              have e2 : cv ≤ 1114111 := by omega
              clear hp
              by_cases e3 : 55296 ≤ cv
              · have e4 : 57343 < cv := by omega
                clear e
                go_wp2
                all_goals (go_ret2; exact ⟨scalR_mk (by rw [Hp.out]) (by rw [Hp.out]; rfl), rfl⟩)
              · clear e
                go_wp2
                all_goals (go_ret2; exact ⟨scalR_mk (by rw [Hp.out]) (by rw [Hp.out]; rfl), rfl⟩)
    by_cases c4 : 240 ≤ s[0].toNat ∧ s[0].toNat < 248
    · have hlead : leadR s[0].toNat = (4, 65536, s[0].toNat - 240) := by unfold leadR; rw [if_neg c2, if_neg c3]; rw [if_pos c4]
      rw [hlead] at hh
      simp only at hh
      obtain ⟨ca, cb⟩ := c4
      clear hlead c1
      by_cases d : s.size < 4
      · rw [if_pos (.inr d)] at hh
        have HH := Lib.hid hh
        have di : (s.size : Int) < 4 := by omega
        clear hh
        go_enter Tryz.func67, Tryz.ntmps67
        go_wp2
        all_goals (go_ret2; exact ⟨scalR_mk (by rw [HH.out]; rfl) (by rw [HH.out]; rfl), rfl⟩)
      · have hne : ¬ ((4 : Nat) = 0 ∨ s.size < 4) := by omega
        rw [if_neg hne] at hh
        have HH := Lib.hid hh
        have di : (4 : Int) ≤ s.size := by omega
        have dn : 4 ≤ s.size := by omega
        have HT : Hid (∀ k, k < s.size → k < 4 → ∃ h : k < s.size, Tail s k 4 = s[k] :: Tail s (k + 1) 4) := Lib.hid fun k h1 h2 => ⟨h1, tail_step h1 h2⟩
        clear hh hne
        go_enter Tryz.func67, Tryz.ntmps67
        go_wp2_with fail
        go_loop [4, 7] (fun c i => ∃ k cv : Nat, 1 ≤ k ∧ k ≤ 4 ∧ i = .int .i64 k ∧ c = .int .i64 cv ∧ ((k = 1 ∧ cv ≤ 31) ∨ (k = 2 ∧ cv ≤ 2047) ∨ (k = 3 ∧ cv ≤ 131071) ∨ (k = 4 ∧ cv ≤ 8388607)) ∧ Hid (contR (s[0].toNat - 240) (Tail s 1 4) = contR cv (Tail s k 4))) (fun _ i => 4 - (intOf i).toNat)
        case atStart => exact ⟨1, s[0].toNat - 240, by omega, by omega, rfl, by congr 1; omega, by omega, Lib.hid rfl⟩
        case round =>
          obtain ⟨k, cv, hk1, hk2, rfl, rfl, hcv, hq⟩ := hrel
          by_cases hlt : k < 4
          · have hks : k < s.size := by omega
            obtain ⟨hks2, ht⟩ := HT.out k hks hlt
            have hx := s[k].toNat_lt
            have hq2 := hq.out
            rw [ht] at hq2
            simp only [contR] at hq2
            clear ht
            by_cases d1 : s[k].toNat < 128 ∨ 192 ≤ s[k].toNat
            · rw [if_pos d1] at hq2
              have hp : p = (0, 0) := by rw [HH.out, hq2]
              have Hp := Lib.hid hp
              clear hp hq2 HH
              rcases d1 with d1 | d1
              · (go_wp2; all_goals (go_ret2; exact ⟨scalR_mk (by rw [Hp.out]; rfl) (by rw [Hp.out]; rfl), rfl⟩))
              · (go_wp2; all_goals (go_ret2; exact ⟨scalR_mk (by rw [Hp.out]; rfl) (by rw [Hp.out]; rfl), rfl⟩))
            · rw [if_neg d1] at hq2
              have d2 : 128 ≤ s[k].toNat := by omega
              have d3 : s[k].toNat < 192 := by omega
              have Hq := Lib.hid hq2
              clear hq2 d1
              go_wp2
              go_round
              case rel => exact ⟨_, _, _, _, ⟨k + 1, by omega, by omega, by go_num, 64 * cv + s[k].toNat - 128, by congr 1; omega, by omega, Hq⟩, rfl, rfl, rfl, rfl⟩
              case measure => simp [intOf]; omega
          · obtain rfl : k = 4 := by omega
            have hq2 := hq.out
            rw [tail_end] at hq2
            simp only [contR] at hq2
            have hp := HH.out
            rw [hq2] at hp
            simp only at hp
            clear hq2 HH hq HT
            by_cases e : cv < 65536 ∨ 1114111 < cv ∨ (55296 ≤ cv ∧ cv ≤ 57343)
            · rw [if_pos e] at hp
              have Hp := Lib.hid hp
              clear hp
              by_cases e1 : cv < 65536
              · (go_wp2; all_goals (go_ret2; exact ⟨scalR_mk (by rw [Hp.out]; rfl) (by rw [Hp.out]; rfl), rfl⟩))
              · by_cases e2 : 1114111 < cv
                · (go_wp2; all_goals (go_ret2; exact ⟨scalR_mk (by rw [Hp.out]; rfl) (by rw [Hp.out]; rfl), rfl⟩))
                · have e3 : 55296 ≤ cv := by omega
                  have e4 : cv ≤ 57343 := by omega
                  clear e
                  go_wp2
                  all_goals (go_ret2; exact ⟨scalR_mk (by rw [Hp.out]; rfl) (by rw [Hp.out]; rfl), rfl⟩)
            · rw [if_neg e] at hp
              have Hp := Lib.hid hp
              have e1 : 65536 ≤ cv := by omega
              have e2 : cv ≤ 1114111 := by omega
              clear hp
              by_cases e3 : 55296 ≤ cv
              · have e4 : 57343 < cv := by omega
                clear e
                go_wp2
                all_goals (go_ret2; exact ⟨scalR_mk (by rw [Hp.out]) (by rw [Hp.out]; rfl), rfl⟩)
              · clear e
                go_wp2
                all_goals (go_ret2; exact ⟨scalR_mk (by rw [Hp.out]) (by rw [Hp.out]; rfl), rfl⟩)
    have hlead : (leadR s[0].toNat).1 = 0 := by unfold leadR; rw [if_neg c2, if_neg c3, if_neg c4]
    rw [if_pos (.inl hlead)] at hh
    have HH := Lib.hid hh
    clear hh hlead
    by_cases e1 : s[0].toNat < 192
    · clear c2 c3 c4
      go_enter Tryz.func67, Tryz.ntmps67
      go_wp2
      all_goals (go_ret2; exact ⟨scalR_mk (by rw [HH.out]; rfl) (by rw [HH.out]; rfl), rfl⟩)
    · have e2 : 248 ≤ s[0].toNat := by omega
      clear c2 c3 c4
      go_enter Tryz.func67, Tryz.ntmps67
      go_wp2
      all_goals (go_ret2; exact ⟨scalR_mk (by rw [HH.out]; rfl) (by rw [HH.out]; rfl), rfl⟩)
end Go.Proofs.YtahiopjplfnlmaaGreatDoor
