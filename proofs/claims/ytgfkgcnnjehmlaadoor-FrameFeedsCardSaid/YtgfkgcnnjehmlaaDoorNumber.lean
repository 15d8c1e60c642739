/- number, the document's: the figures that come; walked. -/
import Derived.Test.YtgfkgcnnjehmlaaDoorAlive
namespace Go.Proofs.YtgfkgcnnjehmlaaDoor
open Go Go.RowKit

theorem pre_bad {p : List UInt8} (h : 5 < p.length ∨ 65536 < val 0 p ∨ (1 < p.length ∧ p.head? = some 48)) : numOf p = none := by
  cases hn : numOf p with
  | none => rfl
  | some n =>
    obtain ⟨h1, h2, h3⟩ := numOf_some hn
    have hl := dec_len n h2
    rw [h3] at hl
    rcases h with h | h | ⟨h, h4⟩
    · omega
    · omega
    · rcases Nat.lt_or_ge n 10 with h10 | h10
      · rw [dec_small h10] at h3
        have := congrArg List.length h3
        simp at this; omega
      · have := dec_head n h10
        rw [h3] at this
        exact absurd h4 this
theorem bad_ext {p e : List UInt8} (hne : p ≠ []) (hf : ∀ c ∈ p, isFig c = true) (h : numOf p = none) : numOf (p ++ e) = none := by
  cases hn : numOf (p ++ e) with
  | none => rfl
  | some n => obtain ⟨m, hm⟩ := numOf_ext hne hf hn; rw [h] at hm; cases hm
theorem takeWhile_at {p : UInt8 → Bool} {l : List UInt8} {k : Nat} (h : ∀ c ∈ l.take k, p c = true) (hs : k = l.length ∨ ∃ c, l[k]? = some c ∧ p c = false) : l.takeWhile p = l.take k := by
  induction l generalizing k with
  | nil => simp
  | cons x l ih =>
    cases k with
    | zero =>
      rcases hs with h0 | ⟨c, hc, hp⟩
      · simp at h0
      · simp at hc; subst hc
        simp [hp]
    | succ k =>
      have hx := h x (by simp)
      simp only [List.takeWhile_cons, hx, if_true, List.take_succ_cons]
      rw [ih (k := k) (fun c hc => h c (List.mem_cons_of_mem _ hc)) (by simpa using hs)]

/-- number's two results -/
def NumR (s : List UInt8) (v : Value) (_ : World) : Prop :=
  ∃ (n : Int) (k : Nat), v = .tuple #[.int .i64 n, .int .i64 k] ∧ k ≤ s.length ∧ ((n = -1 ∧ numOf (s.takeWhile isFig) = none) ∨ (0 ≤ n ∧ n ≤ 65536 ∧ k = (s.takeWhile isFig).length ∧ (k = 0 ∨ numOf (s.takeWhile isFig) = some n.toNat)))

set_option maxHeartbeats 1000000 in
theorem number_any (s : ByteArray) (w : World) (hs : s.size ≤ 1048576) : Calls Tryd.prog 32 #[.string s] w (Ret w (NumR s.data.toList)) := by
  go_enter Tryd.func32, Tryd.ntmps32
  go_wp2_with fail
  go_loopw [4, 5] (fun n i wq => ∃ (k m : Nat), k ≤ s.size ∧ k ≤ 5 ∧ m ≤ 65536 ∧ i = .int .i64 k ∧ n = .int .i64 m ∧ Hid (Below w.heap.size w wq ∧ m = val 0 (s.data.toList.take k) ∧ (∀ c ∈ s.data.toList.take k, isFig c = true) ∧ (k ≤ 1 ∨ s.data.toList.head? ≠ some 48))) (fun _ i _ => s.size - (intOf i).toNat)
  case atStart => exact ⟨0, 0, Nat.zero_le _, by omega, by omega, rfl, rfl, Below.refl _ _, rfl, by simp, .inl (by omega)⟩
  case round =>
    obtain ⟨k, m, hk, hk5, hm, rfl, rfl, hq⟩ := hrel
    have hsl : s.data.toList.length = s.size := rfl
    have fin : (k = s.size ∨ ∃ c, s.data.toList[k]? = some c ∧ isFig c = false) → NumR s.data.toList (.tuple #[.int .i64 m, .int .i64 k]) wr := fun hstop => by
      obtain ⟨-, h2, h3, h4⟩ := hq.out
      have ht := takeWhile_at h3 hstop
      refine ⟨m, k, rfl, by omega, .inr ⟨by omega, by omega, by rw [ht, List.length_take]; omega, ?_⟩⟩
      rcases Nat.eq_zero_or_pos k with h0 | h0
      · exact .inl h0
      · right
        rw [ht]
        have hd : Lib.decDigits (val 0 (s.data.toList.take k)) = s.data.toList.take k := by
          refine dec_of _ (by intro he; have h9 := congrArg List.length he; rw [List.length_take, List.length_nil] at h9; omega) h3 ?_
          rcases h4 with h4 | h4
          · left; rw [List.length_take]; omega
          · right
            have : (s.data.toList.take k).head? = s.data.toList.head? := by
              cases hl : s.data.toList with
              | nil => simp
              | cons a l => obtain ⟨j, rfl⟩ : ∃ j, k = j + 1 := ⟨k - 1, by omega⟩; simp
            rw [this]; exact h4
        rw [← h2] at hd
        simp only [numOf, ← h2, hd]; rw [if_pos ⟨hm, trivial⟩]; simp
    have Fin := Lib.hid fin
    clear fin
    by_cases hlt : k < s.size
    · have hkl : (k : Int) < s.size := by omega
      have g1 : s.data.toList[k]? = some s[k] := by rw [List.getElem?_eq_getElem (by simpa using hlt)]; rfl
      have G1 := Lib.hid g1
      clear g1
      by_cases h48 : 48 ≤ s[k].toNat
      · by_cases h57 : s[k].toNat ≤ 57
        · have h482 : (48 : Int) ≤ s[k].toNat := by omega
          have h572 : (s[k].toNat : Int) ≤ 57 := by omega
          have h0s : 0 < s.size := by omega
          have h0i : (0 : Int) < s.size := by omega
          have hhead : s.data.toList.head? = some s[0] := by
            rw [List.head?_eq_getElem?, List.getElem?_eq_getElem (by simpa using h0s)]; rfl
          obtain ⟨m', hm'⟩ : ∃ m' : Nat, m' = m * 10 + (s[k].toNat - 48) := ⟨_, rfl⟩
          have hmi : 10 * (m : Int) + ((s[k].toNat : Int) - 48) = m' := by omega
          have hval : m' = val 0 (s.data.toList.take (k + 1)) := by
            rw [List.take_add_one, G1.out, Option.toList_some, val_append, ← hq.out.2.1, hm']
          have hpre : ∀ c ∈ s.data.toList.take (k + 1), isFig c = true := by
            intro c hc
            rw [List.take_add_one, G1.out] at hc
            rcases List.mem_append.1 hc with h | h
            · exact hq.out.2.2.1 c h
            · simp at h; rw [h, isFig_iff]; exact ⟨h48, h57⟩
          have htw : s.data.toList.takeWhile isFig = s.data.toList.take (k + 1) ++ (s.data.toList.drop (k + 1)).takeWhile isFig := by
            rw [← takeWhile_app hpre, List.take_append_drop]
          have hbad : (5 < k + 1 ∨ 65536 < m' ∨ (1 < k + 1 ∧ s[0] = 48)) → NumR s.data.toList (.tuple #[.int .i64 (-1), .int .i64 (k + 1)]) wr := fun h => by
            refine ⟨-1, k + 1, rfl, by omega, .inl ⟨rfl, ?_⟩⟩
            rw [htw]
            have hlen : (s.data.toList.take (k + 1)).length = k + 1 := by rw [List.length_take]; omega
            refine bad_ext (by intro he; rw [he] at hlen; simp at hlen) hpre (pre_bad ?_)
            rw [hlen, ← hval]
            rcases h with h | h | ⟨h, h2⟩
            · exact .inl h
            · exact .inr (.inl h)
            · refine .inr (.inr ⟨h, ?_⟩)
              have : (s.data.toList.take (k + 1)).head? = s.data.toList.head? := by
                cases s.data.toList <;> simp
              rw [this, hhead, h2]
          have Bad := Lib.hid hbad
          have hgood : k + 1 ≤ 5 → m' ≤ 65536 → (k = 0 ∨ s[0] ≠ 48) → Hid (Below w.heap.size w wr ∧ m' = val 0 (s.data.toList.take (k + 1)) ∧ (∀ c ∈ s.data.toList.take (k + 1), isFig c = true) ∧ (k + 1 ≤ 1 ∨ s.data.toList.head? ≠ some 48)) := fun h1 h2 h3 =>
            ⟨hq.out.1, hval, hpre, by
              rcases h3 with h3 | h3
              · left; omega
              · right; rw [hhead]; exact fun he => h3 (Option.some.inj he)⟩
          have Good := Lib.hid hgood
          have hw := Lib.hid hq.out.1
          have Hmi := Lib.hid hmi
          clear hbad hgood hval hpre htw hhead hq Fin G1 hsl
          by_cases hA : 5 < k + 1
          · have hA2 : (5 : Int) < (k : Int) + 1 := by omega
            go_wp2
            go_ret2
            exact ⟨_, rfl, hw.out, Bad.out (.inl hA)⟩
          · have hA2 : (k : Int) + 1 ≤ 5 := by omega
            by_cases hB : 65536 < m'
            · have hB2 : (65536 : Int) < 10 * (m : Int) + ((s[k].toNat : Int) - 48) := by omega
              go_wp2
              go_ret2
              exact ⟨_, rfl, hw.out, Bad.out (.inr (.inl hB))⟩
            · have hB2 : 10 * (m : Int) + ((s[k].toNat : Int) - 48) ≤ 65536 := by omega
              by_cases hC : k = 0
              · have hC2 : decide ((1 : Int) < (k : Int) + 1) = false := by simp; omega
                have HC := Lib.hid hC
                clear hC
                go_wp2_with fail
                go_roundw
                case rel => exact ⟨k + 1, m', by omega, by omega, by omega, by go_num, by congr 1; omega, Good.out (by omega) (by omega) (.inl HC.out)⟩
                case measure => simp [intOf]; omega
              · have hC2 : (1 : Int) < (k : Int) + 1 := by omega
                by_cases hD : s[0] = 48
                · have hD2 : ((s[0].toNat : Int) == 48) = true := by rw [hD]; rfl
                  have HD := Lib.hid hD
                  clear hD
                  go_wp2
                  go_ret2
                  exact ⟨_, rfl, hw.out, Bad.out (.inr (.inr ⟨by omega, HD.out⟩))⟩
                · have hD2 : ((s[0].toNat : Int) == 48) = false := by
                    rw [beq_eq_false_iff_ne]; intro he
                    have h2 : s[0].toNat = (48 : UInt8).toNat := by have : (48 : UInt8).toNat = 48 := rfl; omega
                    exact hD (UInt8.toNat_inj.1 h2)
                  have HD := Lib.hid hD
                  clear hD
                  go_wp2_with fail
                  go_roundw
                  case rel => exact ⟨k + 1, m', by omega, by omega, by omega, by go_num, by congr 1; omega, Good.out (by omega) (by omega) (.inr HD.out)⟩
                  case measure => simp [intOf]; omega
        · have h572 : (57 : Int) < s[k].toNat := by omega
          have h482 : (48 : Int) ≤ s[k].toNat := by omega
          have hw := Lib.hid hq.out.1
          have hfin := Fin.out (.inr ⟨s[k], G1.out, by rw [Bool.eq_false_iff]; intro h; rw [isFig_iff] at h; omega⟩)
          have Hf := Lib.hid hfin
          clear hfin Fin G1 hq
          go_wp2
          go_ret2
          exact ⟨_, rfl, hw.out, Hf.out⟩
      · have h482 : (s[k].toNat : Int) < 48 := by omega
        have hw := Lib.hid hq.out.1
        have hfin := Fin.out (.inr ⟨s[k], G1.out, by rw [Bool.eq_false_iff]; intro h; rw [isFig_iff] at h; omega⟩)
        have Hf := Lib.hid hfin
        clear hfin Fin G1 hq
        go_wp2
        go_ret2
        exact ⟨_, rfl, hw.out, Hf.out⟩
    · have hw := Lib.hid hq.out.1
      have hfin := Fin.out (.inl (by omega))
      have Hf := Lib.hid hfin
      clear hfin Fin hq
      go_wp2
      go_ret2
      exact ⟨_, rfl, hw.out, Hf.out⟩
end Go.Proofs.YtgfkgcnnjehmlaaDoor
