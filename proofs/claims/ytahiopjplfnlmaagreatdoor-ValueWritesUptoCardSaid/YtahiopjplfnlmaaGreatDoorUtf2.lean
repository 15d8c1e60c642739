/- How the document tells a right text, plainly. -/
import Derived.Test.YtahiopjplfnlmaaGreatDoorUtf
namespace Go.Proofs.YtahiopjplfnlmaaGreatDoor
open Go

/-- the bytes behind the first -/
def contR (c : Nat) : Nm → Option Nat
  | [] => some c
  | x :: l => if x.toNat < 128 ∨ 192 ≤ x.toNat then none else contR (64 * c + x.toNat - 128) l
/-- how many bytes, the least number, and what the first byte tells of it -/
def leadR (c : Nat) : Nat × Nat × Nat :=
  if 192 ≤ c ∧ c < 224 then (2, 128, c - 192) else if 224 ≤ c ∧ c < 240 then (3, 2048, c - 224) else if 240 ≤ c ∧ c < 248 then (4, 65536, c - 240) else (0, 0, c)
def headR : Nm → Nat × Nat
  | [] => (0, 0)
  | b :: t =>
    if b.toNat < 128 then (b.toNat, 1)
    else if (leadR b.toNat).1 = 0 ∨ t.length + 1 < (leadR b.toNat).1 then (0, 0)
    else match contR (leadR b.toNat).2.2 (t.take ((leadR b.toNat).1 - 1)) with
      | none => (0, 0)
      | some c => if c < (leadR b.toNat).2.1 ∨ 1114111 < c ∨ (55296 ≤ c ∧ c ≤ 57343) then (0, 0) else (c, (leadR b.toNat).1)
set_option maxRecDepth 100000 in
set_option maxHeartbeats 4000000 in
/-- when the decoder tells a wrong byte -/
theorem bad_dec (m b0 b1 b2 b3 : Nat) (h : 128 ≤ b0 ∧
    (192 ≤ b0 ∧ b0 < 224 → m < 2 ∨ b1 / 64 ≠ 2 ∨ b0 % 32 * 64 + b1 % 64 < 128) ∧
    (224 ≤ b0 ∧ b0 < 240 → m < 3 ∨ b1 / 64 ≠ 2 ∨ b2 / 64 ≠ 2 ∨ b0 % 16 * 4096 + b1 % 64 * 64 + b2 % 64 < 2048 ∨ (55296 ≤ b0 % 16 * 4096 + b1 % 64 * 64 + b2 % 64 ∧ b0 % 16 * 4096 + b1 % 64 * 64 + b2 % 64 < 57344)) ∧
    (240 ≤ b0 ∧ b0 < 248 → m < 4 ∨ b1 / 64 ≠ 2 ∨ b2 / 64 ≠ 2 ∨ b3 / 64 ≠ 2 ∨ b0 % 8 * 262144 + b1 % 64 * 4096 + b2 % 64 * 64 + b3 % 64 < 65536 ∨ 1114111 < b0 % 8 * 262144 + b1 % 64 * 4096 + b2 % 64 * 64 + b3 % 64)) : Lib.decodeN m b0 b1 b2 b3 = (65533, 1) := by
  obtain ⟨h0, h2, h3, h4⟩ := h
  unfold Lib.decodeN
  rw [if_neg (by omega)]
  split
  · split
    · exfalso; omega
    · rfl
  · split
    · split
      · exfalso; omega
      · rfl
    · split
      · split
        · exfalso; omega
        · rfl
      · rfl
theorem notB {n : Nat × Nat} (h : n.2 ≠ 1) : n = if n.1 = 65533 ∧ n.2 = 1 then (0, 0) else n := by rw [if_neg (fun e => h e.2)]
theorem isB {n : Nat × Nat} (h : n = (65533, 1)) : (0, 0) = if n.1 = 65533 ∧ n.2 = 1 then (0, 0) else n := by rw [h]; rfl
set_option maxHeartbeats 2000000 in
/-- it is the decoder's, but for a wrong byte -/
theorem headR_eq (l : Nm) (h : l ≠ []) : headR l = if (Lib.decodeL l).1 = 65533 ∧ (Lib.decodeL l).2 = 1 then (0, 0) else Lib.decodeL l := by
  rw [Lib.decodeL_N]
  cases l with
  | nil => exact absurd rfl h
  | cons b t =>
    have hb := b.toNat_lt
    simp only [List.getD_cons_zero, List.length_cons, List.getD_cons_succ]
    simp only [headR]
    by_cases c1 : b.toNat < 128
    · rw [if_pos c1]
      have e : Lib.decodeN (t.length + 1) b.toNat (t.getD 0 0).toNat (t.getD 1 0).toNat (t.getD 2 0).toNat = (b.toNat, 1) := by unfold Lib.decodeN; rw [if_pos c1]
      rw [e, if_neg (by simp only; omega)]
    · rw [if_neg c1]
      unfold leadR
      by_cases c2 : 192 ≤ b.toNat ∧ b.toNat < 224
      · rw [if_pos c2]
        simp only
        match t with
        | [] => exact isB (bad_dec _ _ _ _ _ (by simp only [List.length_nil]; omega))
        | x :: t =>
          have hx := x.toNat_lt
          simp only [List.length_cons, List.take_succ_cons, List.take_zero, contR, List.getD_cons_zero, List.getD_cons_succ, Nat.reduceSub]
          rw [if_neg (by omega)]
          by_cases d : x.toNat < 128 ∨ 192 ≤ x.toNat
          · rw [if_pos d]
            exact isB (bad_dec _ _ _ _ _ (by omega))
          · rw [if_neg d]
            simp only
            by_cases e : 64 * (b.toNat - 192) + x.toNat - 128 < 128
            · rw [if_pos (by omega)]
              exact isB (bad_dec _ _ _ _ _ (by omega))
            · rw [if_neg (by omega), decode2 _ _ _ _ _ (64 * (b.toNat - 192) + x.toNat - 128) (by omega) (by omega) (by omega) (by omega) (by omega)]
              exact notB (by simp)
      · rw [if_neg c2]
        by_cases c3 : 224 ≤ b.toNat ∧ b.toNat < 240
        · rw [if_pos c3]
          simp only
          match t with
          | [] => exact isB (bad_dec _ _ _ _ _ (by simp only [List.length_nil]; omega))
          | [x] =>
            have hx := x.toNat_lt
            simp only [List.length_cons, List.length_nil]
            rw [if_pos (by omega)]
            exact isB (bad_dec _ _ _ _ _ (by omega))
          | x :: y :: t =>
            have hx := x.toNat_lt
            have hy := y.toNat_lt
            simp only [List.length_cons, List.take_succ_cons, List.take_zero, contR, List.getD_cons_zero, List.getD_cons_succ, Nat.reduceSub]
            rw [if_neg (show ¬ (3 = 0 ∨ t.length + 1 + 1 + 1 < 3) by omega)]
            by_cases d : x.toNat < 128 ∨ 192 ≤ x.toNat
            · rw [if_pos d]
              exact isB (bad_dec _ _ _ _ _ (by omega))
            · rw [if_neg d]
              by_cases d2 : y.toNat < 128 ∨ 192 ≤ y.toNat
              · rw [if_pos d2]
                exact isB (bad_dec _ _ _ _ _ (by omega))
              · rw [if_neg d2]
                simp only
                obtain ⟨n, hn⟩ : ∃ n, n = 64 * (64 * (b.toNat - 224) + x.toNat - 128) + y.toNat - 128 := ⟨_, rfl⟩
                rw [← hn]
                by_cases e : n < 2048 ∨ 1114111 < n ∨ (55296 ≤ n ∧ n ≤ 57343)
                · rw [if_pos e]
                  exact isB (bad_dec _ _ _ _ _ (by omega))
                · rw [if_neg e, decode3 _ _ _ _ _ n (by omega) (by omega) (by omega) (by omega) (by omega) (by omega) (by omega)]
                  exact notB (by simp)
        · rw [if_neg c3]
          by_cases c4 : 240 ≤ b.toNat ∧ b.toNat < 248
          · rw [if_pos c4]
            simp only
            match t with
            | [] => exact isB (bad_dec _ _ _ _ _ (by simp only [List.length_nil]; omega))
            | [x] =>
              simp only [List.length_cons, List.length_nil]
              rw [if_pos (by omega)]
              exact isB (bad_dec _ _ _ _ _ (by omega))
            | [x, y] =>
              simp only [List.length_cons, List.length_nil]
              rw [if_pos (by omega)]
              exact isB (bad_dec _ _ _ _ _ (by omega))
            | x :: y :: z :: t =>
              have hx := x.toNat_lt
              have hy := y.toNat_lt
              have hz := z.toNat_lt
              simp only [List.length_cons, List.take_succ_cons, List.take_zero, contR, List.getD_cons_zero, List.getD_cons_succ, Nat.reduceSub]
              rw [if_neg (show ¬ (4 = 0 ∨ t.length + 1 + 1 + 1 + 1 < 4) by omega)]
              by_cases d : x.toNat < 128 ∨ 192 ≤ x.toNat
              · rw [if_pos d]
                exact isB (bad_dec _ _ _ _ _ (by omega))
              · rw [if_neg d]
                by_cases d2 : y.toNat < 128 ∨ 192 ≤ y.toNat
                · rw [if_pos d2]
                  exact isB (bad_dec _ _ _ _ _ (by omega))
                · rw [if_neg d2]
                  by_cases d3 : z.toNat < 128 ∨ 192 ≤ z.toNat
                  · rw [if_pos d3]
                    exact isB (bad_dec _ _ _ _ _ (by omega))
                  · rw [if_neg d3]
                    simp only
                    obtain ⟨n, hn⟩ : ∃ n, n = 64 * (64 * (64 * (b.toNat - 240) + x.toNat - 128) + y.toNat - 128) + z.toNat - 128 := ⟨_, rfl⟩
                    rw [← hn]
                    by_cases e : n < 65536 ∨ 1114111 < n ∨ (55296 ≤ n ∧ n ≤ 57343)
                    · rw [if_pos e]
                      exact isB (bad_dec _ _ _ _ _ (by omega))
                    · rw [if_neg e, decode4 _ _ _ _ _ n (by omega) (by omega) (by omega) (by omega) (by omega) (by omega) (by omega)]
                      exact notB (by simp)
          · rw [if_neg c4, if_pos (.inl rfl)]
            exact isB (bad_dec _ _ _ _ _ (by omega))
theorem headR_valid (l : Nm) (h : l ≠ []) : Lib.validD l = if (headR l).2 = 0 then false else Lib.validD (l.drop (headR l).2) := by
  rw [Lib.validD_step l h, headR_eq l h]
  have hw := Lib.decodeL_width l
  by_cases c : (Lib.decodeL l).1 = 65533 ∧ (Lib.decodeL l).2 = 1
  · rw [if_pos c, if_pos c]; rfl
  · rw [if_neg c, if_neg c, if_neg (by omega)]
theorem headR_le (l : Nm) (h : l ≠ []) : (headR l).2 ≤ l.length := by
  rw [headR_eq l h]
  split
  · exact Nat.zero_le _
  · exact Lib.decodeL_le l h
theorem headR_small (l : Nm) : (headR l).1 ≤ 1114111 := by
  by_cases h : l = []
  · rw [h]; exact Nat.zero_le _
  · rw [headR_eq l h]
    split
    · exact Nat.zero_le _
    · exact Lib.decodeL_rune l
end Go.Proofs.YtahiopjplfnlmaaGreatDoor
