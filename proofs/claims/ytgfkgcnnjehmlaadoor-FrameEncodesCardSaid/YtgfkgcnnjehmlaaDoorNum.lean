/- Numerals, plainly: figures, their value, and when they are a number of a frame. -/
import Derived.Lib.AtoiAll
import Derived.Lib.ItoaNum
namespace Go.Proofs.YtgfkgcnnjehmlaaDoor
open Go

def isFig (c : UInt8) : Bool := decide (48 ≤ c.toNat) && decide (c.toNat ≤ 57)
theorem isFig_iff {c : UInt8} : isFig c = true ↔ 48 ≤ c.toNat ∧ c.toNat ≤ 57 := by simp [isFig]

/-- what figures spell, behind those that spelt acc -/
def val (acc : Nat) : List UInt8 → Nat
  | [] => acc
  | c :: r => val (acc * 10 + (c.toNat - 48)) r
theorem val_append (acc : Nat) (l : List UInt8) (c : UInt8) : val acc (l ++ [c]) = val acc l * 10 + (c.toNat - 48) := by
  induction l generalizing acc with
  | nil => rfl
  | cons a l ih => exact ih _
theorem val_ge (acc : Nat) (l : List UInt8) : acc ≤ val acc l := by
  induction l generalizing acc with
  | nil => exact Nat.le_refl _
  | cons a l ih => exact Nat.le_trans (by omega) (ih _)
theorem val_app (acc : Nat) (l m : List UInt8) : val acc (l ++ m) = val (val acc l) m := by
  induction l generalizing acc with
  | nil => rfl
  | cons a l ih => exact ih _

/-- the number that figures are, if they are one of a frame -/
def numOf (d : List UInt8) : Option Nat := if val 0 d ≤ 65536 ∧ Lib.decDigits (val 0 d) = d then some (val 0 d) else none
theorem numOf_some {d : List UInt8} {n : Nat} (h : numOf d = some n) : n = val 0 d ∧ n ≤ 65536 ∧ Lib.decDigits n = d := by
  unfold numOf at h
  split at h
  · rename_i hc; cases h; exact ⟨rfl, hc.1, hc.2⟩
  · cases h

theorem parse_ok : ∀ (d : List UInt8) (acc : Nat), (∀ c ∈ d, isFig c = true) → val acc d ≤ 65536 → Lib.parseUint10 acc d = .ok (val acc d)
  | [], acc, _, _ => rfl
  | c :: r, acc, hf, hv => by
    have hc := isFig_iff.1 (hf c (by simp))
    have hg : acc * 10 + (c.toNat - 48) ≤ 65536 := Nat.le_trans (val_ge _ r) hv
    simp only [Lib.parseUint10]
    rw [if_pos hc, if_neg (by omega), if_neg (by omega)]
    exact parse_ok r _ (fun x hx => hf x (by simp [hx])) hv
theorem parse_val : ∀ (d : List UInt8) (acc u : Nat), Lib.parseUint10 acc d = .ok u → u = val acc d
  | [], acc, u, h => by simp only [Lib.parseUint10] at h; injection h with h; exact h.symm
  | c :: r, acc, u, h => by
    simp only [Lib.parseUint10] at h
    split at h
    · split at h
      · cases h
      · split at h
        · cases h
        · exact parse_val r _ u h
    · cases h

theorem dec_ne (n : Nat) : Lib.decDigits n ≠ [] := by
  intro h
  have := Lib.decDigits_length n
  rw [h] at this
  have := Lib.nDigits_pos n
  simp at *; omega
theorem fig_nat {k : Nat} (h : k < 10) : (UInt8.ofNat (48 + k)).toNat = 48 + k := by rw [UInt8.toNat_ofNat', Nat.mod_eq_of_lt (by omega)]
theorem head_app {l m : List UInt8} (h : l ≠ []) : (l ++ m).head? = l.head? := by
  cases l with
  | nil => exact absurd rfl h
  | cons a l => rfl
theorem dec_small {n : Nat} (h : n < 10) : Lib.decDigits n = [UInt8.ofNat (48 + n)] := Lib.decDigits_one h
theorem dec_big {n : Nat} (h : ¬ n < 10) : Lib.decDigits n = Lib.decDigits (n / 10) ++ [UInt8.ofNat (48 + n % 10)] := by rw [Lib.decDigits, dif_neg h]
theorem dec_figs (n : Nat) : ∀ c ∈ Lib.decDigits n, isFig c = true := by
  induction n using Nat.strongRecOn with
  | _ n ih =>
    intro c hc
    by_cases h : n < 10
    · rw [dec_small h, List.mem_singleton] at hc
      rw [hc, isFig_iff, fig_nat h]; omega
    · rw [dec_big h] at hc
      rcases List.mem_append.1 hc with h2 | h2
      · exact ih _ (by omega) c h2
      · rw [List.mem_singleton] at h2
        rw [h2, isFig_iff, fig_nat (by omega)]; omega
theorem dec_val (n : Nat) : val 0 (Lib.decDigits n) = n := by
  induction n using Nat.strongRecOn with
  | _ n ih =>
    by_cases h : n < 10
    · have e : val 0 [UInt8.ofNat (48 + n)] = 0 * 10 + ((UInt8.ofNat (48 + n)).toNat - 48) := rfl
      rw [dec_small h, e, fig_nat h]; omega
    · rw [dec_big h, val_append, ih _ (by omega), fig_nat (by omega)]; omega
theorem dec_head (n : Nat) (h : 10 ≤ n) : (Lib.decDigits n).head? ≠ some 48 := by
  induction n using Nat.strongRecOn with
  | _ n ih =>
    rw [dec_big (by omega), head_app (dec_ne _)]
    by_cases h2 : 10 ≤ n / 10
    · exact ih _ (by omega) h2
    · rw [dec_small (by omega)]
      intro he
      have h3 : UInt8.ofNat (48 + n / 10) = 48 := Option.some.inj he
      have h4 := congrArg UInt8.toNat h3
      rw [fig_nat (by omega)] at h4
      have : (48 : UInt8).toNat = 48 := rfl
      omega
theorem dec_len (n : Nat) (h : n ≤ 65536) : (Lib.decDigits n).length ≤ 5 := by
  rw [Lib.decDigits_length]
  rcases Nat.lt_or_ge n 10 with h1 | h1
  · rw [Lib.nDigits_small h1]; omega
  rcases Nat.lt_or_ge n 100 with h2 | h2
  · rw [Lib.nDigits_unique 1 n (by omega) (by omega)]; omega
  rcases Nat.lt_or_ge n 1000 with h3 | h3
  · rw [Lib.nDigits_unique 2 n (by omega) (by omega)]; omega
  rcases Nat.lt_or_ge n 10000 with h4 | h4
  · rw [Lib.nDigits_unique 3 n (by omega) (by omega)]; omega
  · rw [Lib.nDigits_unique 4 n (by omega) (by omega)]; omega

theorem numOf_dec (n : Nat) (h : n ≤ 65536) : numOf (Lib.decDigits n) = some n := by
  unfold numOf; rw [dec_val, if_pos ⟨h, rfl⟩]

theorem fig_of {c : UInt8} {k : Nat} (h : 48 ≤ c.toNat) (hk : k = c.toNat - 48) : UInt8.ofNat (48 + k) = c := by
  apply UInt8.toNat_inj.1
  have := c.toNat_lt
  rw [UInt8.toNat_ofNat', Nat.mod_eq_of_lt (by omega)]; omega

/-- figures without a needless nought are the numeral of what they spell -/
theorem dec_of : ∀ (d : List UInt8), d ≠ [] → (∀ c ∈ d, isFig c = true) → (d.length = 1 ∨ d.head? ≠ some 48) → Lib.decDigits (val 0 d) = d := by
  intro d
  induction hn : d.length generalizing d with
  | zero => intro h; exact absurd (List.length_eq_zero_iff.1 hn) h
  | succ k ih =>
    intro hne hf hh
    have hd := List.dropLast_concat_getLast hne
    have hlast := isFig_iff.1 (hf _ (List.getLast_mem hne))
    generalize hc : d.getLast hne = c at hd hlast
    generalize he : d.dropLast = e at hd
    rw [← hd, val_append]
    rcases Nat.eq_zero_or_pos e.length with h0 | h0
    · rw [List.length_eq_zero_iff.1 h0]
      have e0 : val 0 [] = 0 := rfl
      rw [e0, List.nil_append, dec_small (by omega), fig_of hlast.1 (by omega)]
    · have hek : e.length = k := by rw [← he, List.length_dropLast, hn]; rfl
      have hene : e ≠ [] := fun h => by rw [h] at h0; simp at h0
      have hhead : d.head? ≠ some 48 := by
        rcases hh with h | h
        · omega
        · exact h
      have hhe : e.head? ≠ some 48 := by rw [← hd, head_app hene] at hhead; exact hhead
      have hfe : ∀ x ∈ e, isFig x = true := fun x hx => hf x (by rw [← hd]; simp [hx])
      have hie := ih e hek hene hfe (.inr hhe)
      have hv : 1 ≤ val 0 e := by
        obtain ⟨x, r, rfl⟩ := List.exists_cons_of_ne_nil hene
        have e1 : val 0 (x :: r) = val (0 * 10 + (x.toNat - 48)) r := rfl
        rw [e1]
        have h1 := isFig_iff.1 (hfe x (by simp))
        have h2 : x ≠ 48 := fun h => hhe (by rw [h]; rfl)
        have h3 : x.toNat ≠ (48 : UInt8).toNat := fun h => h2 (UInt8.toNat_inj.1 h)
        have h4 : (48 : UInt8).toNat = 48 := rfl
        exact Nat.le_trans (by omega) (val_ge _ r)
      rw [dec_big (by omega), show (val 0 e * 10 + (c.toNat - 48)) / 10 = val 0 e by omega, hie, fig_of hlast.1 (by omega)]

/-- how the program tells a number -/
theorem atoi_num {d : List UInt8} (hf : ∀ c ∈ d, isFig c = true) :
    (∀ n, numOf d = some n → Lib.atoiAll d = .ok (n : Int)) ∧ (∀ v, Lib.atoiAll d = .ok v → 0 ≤ v ∧ (v ≤ 65536 → Lib.itoa v = d → numOf d = some v.toNat)) := by
  cases d with
  | nil =>
    refine ⟨fun n h => ?_, fun v h => by simp [Lib.atoiAll] at h⟩
    obtain ⟨h1, h2, h3⟩ := numOf_some h
    exact absurd h3 (dec_ne n)
  | cons c r =>
    have hc := isFig_iff.1 (hf c (by simp))
    have h1 : ¬ (c.toNat = 43 ∨ c.toNat = 45) := by omega
    refine ⟨fun n h => ?_, fun v h => ?_⟩
    · obtain ⟨e1, e2, e3⟩ := numOf_some h
      have hp := parse_ok (c :: r) 0 hf (by rw [← e1]; exact e2)
      have hm : Lib.parseMag (c :: r) = .ok n := by rw [Lib.parseMag, if_neg (by simp), hp, e1]
      simp only [Lib.atoiAll]
      rw [if_neg h1, hm]
      simp only
      rw [if_neg (by omega), if_neg (by omega), if_neg (by omega)]
    · simp only [Lib.atoiAll] at h
      rw [if_neg h1] at h
      split at h
      · cases h
      · cases h
      · rename_i u hu
        rw [Lib.parseMag, if_neg (by simp)] at hu
        obtain rfl := parse_val _ _ _ hu
        split at h
        · cases h
        · split at h
          · cases h
          · injection h with h
            rw [if_neg (by omega)] at h
            subst h
            refine ⟨by omega, fun hle he => ?_⟩
            unfold numOf
            have he2 : Lib.decDigits (val 0 (c :: r)) = c :: r := by
              rw [Lib.itoa, if_neg (by omega)] at he
              simpa using he
            rw [if_pos ⟨by omega, he2⟩]; simp
end Go.Proofs.YtgfkgcnnjehmlaaDoor
