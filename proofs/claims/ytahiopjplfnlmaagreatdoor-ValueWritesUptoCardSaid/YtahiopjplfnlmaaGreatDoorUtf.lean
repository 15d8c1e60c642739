/- Right texts, plainly: scalars' bytes, one behind the other. -/
import Derived.Test.YtahiopjplfnlmaaGreatDoorVal2
namespace Go.Proofs.YtahiopjplfnlmaaGreatDoor
open Go

def Scalar (n : Nat) : Prop := n < 55296 ∨ (57344 ≤ n ∧ n ≤ 1114111)
theorem u8 {n : Nat} (h : n < 256) : (UInt8.ofNat n).toNat = n := by rw [UInt8.toNat_ofNat', Nat.mod_eq_of_lt (by omega)]
theorem u8_eq {c : UInt8} {n : Nat} (h : c.toNat = n) : c = UInt8.ofNat n := by
  apply UInt8.toNat_inj.1
  rw [u8 (by have := c.toNat_lt; omega), h]
set_option maxRecDepth 100000 in
set_option maxHeartbeats 4000000 in
theorem decode2 (m b0 b1 b2 b3 : Nat) (n : Nat) (h1 : 128 ≤ n) (h2 : n < 2048) (hm : 2 ≤ m) (e0 : b0 = 192 + n / 64) (e1 : b1 = 128 + n % 64) : Lib.decodeN m b0 b1 b2 b3 = (n, 2) := by
  unfold Lib.decodeN
  repeat' split
  all_goals first | (exfalso; omega) | (apply Prod.ext <;> simp only <;> omega)
set_option maxRecDepth 100000 in
set_option maxHeartbeats 4000000 in
theorem decode3 (m b0 b1 b2 b3 : Nat) (n : Nat) (h1 : 2048 ≤ n) (h2 : n < 65536) (hs : n < 55296 ∨ 57344 ≤ n) (hm : 3 ≤ m) (e0 : b0 = 224 + n / 4096) (e1 : b1 = 128 + n / 64 % 64) (e2 : b2 = 128 + n % 64) : Lib.decodeN m b0 b1 b2 b3 = (n, 3) := by
  unfold Lib.decodeN
  repeat' split
  all_goals first | (exfalso; omega) | (apply Prod.ext <;> simp only <;> omega)
set_option maxRecDepth 100000 in
set_option maxHeartbeats 4000000 in
theorem decode4 (m b0 b1 b2 b3 : Nat) (n : Nat) (h1 : 65536 ≤ n) (h2 : n ≤ 1114111) (hm : 4 ≤ m) (e0 : b0 = 240 + n / 262144) (e1 : b1 = 128 + n / 4096 % 64) (e2 : b2 = 128 + n / 64 % 64) (e3 : b3 = 128 + n % 64) : Lib.decodeN m b0 b1 b2 b3 = (n, 4) := by
  unfold Lib.decodeN
  repeat' split
  all_goals first | (exfalso; omega) | (apply Prod.ext <;> simp only <;> omega)
theorem scalarB_pos (n : Nat) : 0 < (scalarB n).length := by
  unfold scalarB
  repeat' split
  all_goals exact Nat.succ_pos _
/-- a scalar at a text's head -/
theorem decode_scalar (n : Nat) (r : Nm) (h : Scalar n) : Lib.decodeL (scalarB n ++ r) = (n, (scalarB n).length) := by
  rw [Lib.decodeL_N]
  unfold scalarB
  unfold Scalar at h
  by_cases h1 : n < 128
  · rw [if_pos h1]
    simp only [List.cons_append, List.nil_append, List.getD_cons_zero, List.length_cons, List.length_nil, u8 (show n < 256 by omega)]
    unfold Lib.decodeN
    rw [if_pos h1]
  · rw [if_neg h1]
    by_cases h2 : n < 2048
    · rw [if_pos h2]
      simp only [List.cons_append, List.nil_append, List.getD_cons_zero, List.getD_cons_succ, List.length_cons, List.length_nil]
      exact decode2 _ _ _ _ _ n (by omega) h2 (by omega) (u8 (by omega)) (u8 (by omega))
    · rw [if_neg h2]
      by_cases h3 : n < 65536
      · rw [if_pos h3]
        simp only [List.cons_append, List.nil_append, List.getD_cons_zero, List.getD_cons_succ, List.length_cons, List.length_nil]
        exact decode3 _ _ _ _ _ n (by omega) h3 (by omega) (by omega) (u8 (by omega)) (u8 (by omega)) (u8 (by omega))
      · rw [if_neg h3]
        simp only [List.cons_append, List.nil_append, List.getD_cons_zero, List.getD_cons_succ, List.length_cons, List.length_nil]
        exact decode4 _ _ _ _ _ n (by omega) (by omega) (by omega) (u8 (by omega)) (u8 (by omega)) (u8 (by omega)) (u8 (by omega))
theorem valid_scalar (n : Nat) (r : Nm) (h : Scalar n) : Lib.validD (scalarB n ++ r) = Lib.validD r := by
  have hp := scalarB_pos n
  rw [Lib.validD_step _ (fun he => by have h2 := congrArg List.length he; rw [List.length_append] at h2; simp only [List.length_nil] at h2; omega), decode_scalar n r h]
  have hne : ¬ (n = 65533 ∧ (scalarB n).length = 1) := by
    rintro ⟨rfl, h1⟩
    have : (scalarB 65533).length = 3 := by decide
    omega
  rw [if_neg hne]
  simp
set_option maxRecDepth 100000 in
set_option maxHeartbeats 4000000 in
/-- what the decoder tells, but for a wrong byte, are a scalar's bytes -/
theorem decode_cases (m b0 b1 b2 b3 : Nat) (h1 : b1 < 256) (h3 : b3 < 256) :
    Lib.decodeN m b0 b1 b2 b3 = (65533, 1) ∨ (b0 < 128 ∧ Lib.decodeN m b0 b1 b2 b3 = (b0, 1)) ∨
    (∃ n, 128 ≤ n ∧ n < 2048 ∧ 2 ≤ m ∧ b0 = 192 + n / 64 ∧ b1 = 128 + n % 64 ∧ Lib.decodeN m b0 b1 b2 b3 = (n, 2)) ∨
    (∃ n, 2048 ≤ n ∧ n < 65536 ∧ (n < 55296 ∨ 57344 ≤ n) ∧ 3 ≤ m ∧ b0 = 224 + n / 4096 ∧ b1 = 128 + n / 64 % 64 ∧ b2 = 128 + n % 64 ∧ Lib.decodeN m b0 b1 b2 b3 = (n, 3)) ∨
    (∃ n, 65536 ≤ n ∧ n ≤ 1114111 ∧ 4 ≤ m ∧ b0 = 240 + n / 262144 ∧ b1 = 128 + n / 4096 % 64 ∧ b2 = 128 + n / 64 % 64 ∧ b3 = 128 + n % 64 ∧ Lib.decodeN m b0 b1 b2 b3 = (n, 4)) := by
  unfold Lib.decodeN
  by_cases c1 : b0 < 128
  · rw [if_pos c1]; exact .inr (.inl ⟨c1, rfl⟩)
  · rw [if_neg c1]
    by_cases c2 : b0 / 32 = 6 ∧ (1 < m ∧ b1 / 64 = 2)
    · rw [if_pos c2]
      by_cases d2 : b0 % 32 * 64 + b1 % 64 ≥ 128
      · rw [if_pos d2]; exact .inr (.inr (.inl ⟨_, d2, by omega, by omega, by omega, by omega, rfl⟩))
      · rw [if_neg d2]; exact .inl rfl
    · rw [if_neg c2]
      by_cases c3 : b0 / 16 = 14 ∧ (1 < m ∧ b1 / 64 = 2) ∧ (2 < m ∧ b2 / 64 = 2)
      · rw [if_pos c3]
        split
        · rename_i d3
          exact .inr (.inr (.inr (.inl ⟨_, d3.1, by omega, by omega, by omega, by omega, by omega, by omega, rfl⟩)))
        · exact .inl rfl
      · rw [if_neg c3]
        by_cases c4 : b0 / 8 = 30 ∧ (1 < m ∧ b1 / 64 = 2) ∧ (2 < m ∧ b2 / 64 = 2) ∧ (3 < m ∧ b3 / 64 = 2)
        · rw [if_pos c4]
          split
          · rename_i d4
            exact .inr (.inr (.inr (.inr ⟨_, d4.1, by omega, by omega, by omega, by omega, by omega, by omega, rfl⟩)))
          · exact .inl rfl
        · rw [if_neg c4]; exact .inl rfl
theorem list_cons2 {l : Nm} (h : 2 ≤ l.length) : l = l.getD 0 0 :: l.getD 1 0 :: l.drop 2 := by
  match l, h with
  | a :: b :: l, _ => rfl
theorem list_cons3 {l : Nm} (h : 3 ≤ l.length) : l = l.getD 0 0 :: l.getD 1 0 :: l.getD 2 0 :: l.drop 3 := by
  match l, h with
  | a :: b :: c :: l, _ => rfl
theorem list_cons4 {l : Nm} (h : 4 ≤ l.length) : l = l.getD 0 0 :: l.getD 1 0 :: l.getD 2 0 :: l.getD 3 0 :: l.drop 4 := by
  match l, h with
  | a :: b :: c :: d :: l, _ => rfl
/-- a right text begins with a scalar -/
theorem valid_head (l : Nm) (h : Lib.validD l = true) (hne : l ≠ []) : ∃ n r, Scalar n ∧ l = scalarB n ++ r ∧ Lib.validD r = true := by
  have hl : 0 < l.length := List.length_pos_iff.2 hne
  rw [Lib.validD_step l hne] at h
  rw [Lib.decodeL_N] at h
  have b1 := (l.getD 1 0).toNat_lt
  have b3 := (l.getD 3 0).toNat_lt
  rcases decode_cases l.length (l.getD 0 0).toNat (l.getD 1 0).toNat (l.getD 2 0).toNat (l.getD 3 0).toNat b1 b3 with e | ⟨c, e⟩ | ⟨n, n1, n2, hm, e0, e1, e⟩ | ⟨n, n1, n2, n3, hm, e0, e1, e2, e⟩ | ⟨n, n1, n2, hm, e0, e1, e2, e3, e⟩
  · rw [e] at h; simp at h
  · rw [e, if_neg (by omega)] at h
    refine ⟨(l.getD 0 0).toNat, l.drop 1, .inl (by omega), ?_, h⟩
    have : scalarB (l.getD 0 0).toNat = [l.getD 0 0] := by unfold scalarB; rw [if_pos c]; simp
    rw [this]
    match l, hl with
    | a :: l, _ => rfl
  · rw [e, if_neg (by omega)] at h
    refine ⟨n, l.drop 2, .inl (by omega), ?_, h⟩
    have : scalarB n = [l.getD 0 0, l.getD 1 0] := by
      unfold scalarB; rw [if_neg (by omega), if_pos n2, u8_eq e0, u8_eq e1]
    rw [this]
    exact list_cons2 hm
  · rw [e, if_neg (by omega)] at h
    refine ⟨n, l.drop 3, by unfold Scalar; omega, ?_, h⟩
    have : scalarB n = [l.getD 0 0, l.getD 1 0, l.getD 2 0] := by
      unfold scalarB; rw [if_neg (by omega), if_neg (by omega), if_pos n2, u8_eq e0, u8_eq e1, u8_eq e2]
    rw [this]
    exact list_cons3 hm
  · rw [e, if_neg (by omega)] at h
    refine ⟨n, l.drop 4, by unfold Scalar; omega, ?_, h⟩
    have : scalarB n = [l.getD 0 0, l.getD 1 0, l.getD 2 0, l.getD 3 0] := by
      unfold scalarB; rw [if_neg (by omega), if_neg (by omega), if_neg (by omega), u8_eq e0, u8_eq e1, u8_eq e2, u8_eq e3]
    rw [this]
    exact list_cons4 hm
theorem valid_ind {P : Nm → Prop} (h0 : P []) (h1 : ∀ n r, Scalar n → Lib.validD r = true → P r → P (scalarB n ++ r)) : ∀ l, Lib.validD l = true → P l := by
  intro l
  induction hn : l.length using Nat.strongRecOn generalizing l with
  | _ k ih =>
    intro hv
    by_cases hne : l = []
    · rw [hne]; exact h0
    · obtain ⟨n, r, hs, rfl, hr⟩ := valid_head l hv hne
      have hp := scalarB_pos n
      rw [List.length_append] at hn
      exact h1 n r hs hr (ih r.length (by omega) r rfl hr)
theorem valid_app {a b : Nm} (ha : Lib.validD a = true) (hb : Lib.validD b = true) : Lib.validD (a ++ b) = true := by
  revert ha
  refine valid_ind (P := fun a => Lib.validD (a ++ b) = true) (by simpa using hb) (fun n r hs _ ih => ?_) a
  rw [List.append_assoc, valid_scalar n _ hs]; exact ih
/-- a byte below 128 is a scalar by itself -/
theorem scalarB_low {n : Nat} {j : Nat} {c : UInt8} (h : (scalarB n)[j]? = some c) (hc : c.toNat < 128) (hn : Scalar n) : scalarB n = [c] := by
  unfold Scalar at hn
  unfold scalarB at h ⊢
  by_cases h1 : n < 128
  · rw [if_pos h1] at h ⊢
    match j, h with
    | 0, h => simp at h; rw [h]
  · exfalso
    rw [if_neg h1] at h
    have key : ∀ k : Nat, 128 ≤ k → k < 256 → c = UInt8.ofNat k → False := fun k k1 k2 e => by rw [e, u8 k2] at hc; omega
    by_cases h2 : n < 2048
    · rw [if_pos h2] at h
      match j, h with
      | 0, h => simp only [List.getElem?_cons_zero, Option.some.injEq] at h; exact key _ (by omega) (by omega) h.symm
      | 1, h => simp only [List.getElem?_cons_zero, List.getElem?_cons_succ, Option.some.injEq] at h; exact key _ (by omega) (by omega) h.symm
    · rw [if_neg h2] at h
      by_cases h3 : n < 65536
      · rw [if_pos h3] at h
        match j, h with
        | 0, h => simp only [List.getElem?_cons_zero, Option.some.injEq] at h; exact key _ (by omega) (by omega) h.symm
        | 1, h => simp only [List.getElem?_cons_zero, List.getElem?_cons_succ, Option.some.injEq] at h; exact key _ (by omega) (by omega) h.symm
        | 2, h => simp only [List.getElem?_cons_zero, List.getElem?_cons_succ, Option.some.injEq] at h; exact key _ (by omega) (by omega) h.symm
      · rw [if_neg h3] at h
        match j, h with
        | 0, h => simp only [List.getElem?_cons_zero, Option.some.injEq] at h; exact key _ (by omega) (by omega) h.symm
        | 1, h => simp only [List.getElem?_cons_zero, List.getElem?_cons_succ, Option.some.injEq] at h; exact key _ (by omega) (by omega) h.symm
        | 2, h => simp only [List.getElem?_cons_zero, List.getElem?_cons_succ, Option.some.injEq] at h; exact key _ (by omega) (by omega) h.symm
        | 3, h => simp only [List.getElem?_cons_zero, List.getElem?_cons_succ, Option.some.injEq] at h; exact key _ (by omega) (by omega) h.symm
/-- a right text cut at a byte below 128 -/
theorem valid_cut {c : UInt8} (hc : c.toNat < 128) : ∀ (a b : Nm), Lib.validD (a ++ c :: b) = true → Lib.validD a = true ∧ Lib.validD b = true := by
  intro a
  induction hn : a.length using Nat.strongRecOn generalizing a with
  | _ k ih =>
    intro b h
    obtain ⟨n, r, hs, he, hr⟩ := valid_head _ h (by simp)
    have hp := scalarB_pos n
    by_cases hk : a.length < (scalarB n).length
    · have h1 : (scalarB n)[a.length]? = some c := by
        have h2 : (scalarB n ++ r)[a.length]? = some c := by rw [← he, List.getElem?_append_right (Nat.le_refl _)]; simp
        rw [List.getElem?_append_left hk] at h2; exact h2
      have h3 := scalarB_low h1 hc hs
      rw [h3] at hk he
      simp only [List.length_cons, List.length_nil, Nat.zero_add, Nat.lt_one_iff] at hk
      have ha : a = [] := List.eq_nil_of_length_eq_zero hk
      rw [ha] at he ⊢
      simp at he
      rw [he]
      exact ⟨rfl, hr⟩
    · have h1 : a = scalarB n ++ a.drop (scalarB n).length := by
        have h2 : (a ++ c :: b).take (scalarB n).length = scalarB n := by rw [he, List.take_left' rfl]
        rw [List.take_append_of_le_length (by omega)] at h2
        conv => lhs; rw [← List.take_append_drop (scalarB n).length a, h2]
      generalize a.drop (scalarB n).length = a' at h1
      subst h1
      rw [List.append_assoc] at he
      have h4 := List.append_cancel_left he
      rw [List.length_append] at hn
      rw [← h4] at hr
      obtain ⟨h5, h6⟩ := ih a'.length (by omega) a' rfl b hr
      exact ⟨by rw [valid_scalar n _ hs]; exact h5, h6⟩
theorem valid_ascii : ∀ (l : Nm), (∀ c ∈ l, c.toNat < 128) → Lib.validD l = true
  | [], _ => rfl
  | c :: l, h => by
    rw [Lib.validD_cons c l (h c (by simp))]
    exact valid_ascii l fun x hx => h x (by simp [hx])
theorem valid_scalarB {n : Nat} (h : Scalar n) : Lib.validD (scalarB n) = true := by
  have := valid_scalar n [] h
  rw [List.append_nil] at this
  rw [this]; rfl
end Go.Proofs.YtahiopjplfnlmaaGreatDoor
