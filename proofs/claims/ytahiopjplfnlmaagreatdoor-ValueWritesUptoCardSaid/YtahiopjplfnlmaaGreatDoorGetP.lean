/- A part of a record, a value's size, whether two are one: plainly. -/
import Derived.Test.YtahiopjplfnlmaaGreatDoorBlk
namespace Go.Proofs.YtahiopjplfnlmaaGreatDoor
open Go

mutual
def V.beq : V → V → Bool
  | .mk s o n t l ks, .mk s' o' n' t' l' ks' => s == s' && o == o' && n == n' && t == t' && ks == ks' && V.beqs l l'
def V.beqs : List V → List V → Bool
  | [], [] => true
  | x :: l, y :: m => V.beq x y && V.beqs l m
  | _, _ => false
end
mutual
theorem V.beq_iff : ∀ v w : V, V.beq v w = true ↔ v = w
  | .mk s o n t l ks, .mk s' o' n' t' l' ks' => by
    rw [V.beq]
    simp only [Bool.and_eq_true, beq_iff_eq, V.mk.injEq, V.beqs_iff l l']
    constructor
    · rintro ⟨⟨⟨⟨⟨a, b⟩, c⟩, d⟩, e⟩, f⟩; exact ⟨a, b, c, d, f, e⟩
    · rintro ⟨a, b, c, d, f, e⟩; exact ⟨⟨⟨⟨⟨a, b⟩, c⟩, d⟩, e⟩, f⟩
theorem V.beqs_iff : ∀ l m : List V, V.beqs l m = true ↔ l = m
  | [], [] => by simp [V.beqs]
  | [], y :: m => by simp [V.beqs]
  | x :: l, [] => by simp [V.beqs]
  | x :: l, y :: m => by rw [V.beqs, Bool.and_eq_true, V.beq_iff x y, V.beqs_iff l m]; simp
end
theorem V.beqs_all : ∀ l m : List V, V.beqs l m = (l.length == m.length && (l.zip m).all fun x => V.beq x.1 x.2)
  | [], [] => rfl
  | [], y :: m => rfl
  | x :: l, [] => rfl
  | x :: l, y :: m => by
    rw [V.beqs, V.beqs_all l m]
    simp only [List.length_cons, List.zip_cons_cons, List.all_cons]
    rw [show (l.length + 1 == m.length + 1) = (l.length == m.length) by rw [Bool.eq_iff_iff]; simp]
    cases V.beq x y <;> cases (l.length == m.length) <;> rfl

/-- where a name stands first -/
def indexK (k : Nm) : List Nm → Option Nat
  | [] => none
  | j :: l => if j = k then some 0 else (indexK k l).map (· + 1)
/-- one step into a record -/
def stepV (v : V) (k : Nm) : Option V := if v.sort = 5 then (indexK k v.keys).bind fun i => v.list[i]? else none
def getV : V → List Nm → Option V
  | v, [] => some v
  | v, k :: p => match stepV v k with | none => none | some x => getV x p
theorem indexK_some {k : Nm} : ∀ {l : List Nm} {i : Nat}, indexK k l = some i → l[i]? = some k ∧ ∀ j, j < i → l[j]? ≠ some k
  | [], i, h => by cases h
  | j :: l, i, h => by
    unfold indexK at h
    by_cases hj : j = k
    · rw [if_pos hj] at h
      injection h with h
      subst h
      exact ⟨by simp [hj], fun _ h => by omega⟩
    · rw [if_neg hj] at h
      cases hx : indexK k l with
      | none => rw [hx] at h; cases h
      | some m =>
        rw [hx] at h
        simp only [Option.map_some, Option.some.injEq] at h
        subst h
        obtain ⟨h1, h2⟩ := indexK_some hx
        refine ⟨by simpa using h1, fun q hq => ?_⟩
        cases q with
        | zero => simpa using hj
        | succ q => simpa using h2 q (by omega)
theorem indexK_none {k : Nm} : ∀ {l : List Nm}, indexK k l = none ↔ ¬ k ∈ l
  | [] => by simp [indexK]
  | j :: l => by
    unfold indexK
    by_cases hj : j = k
    · rw [if_pos hj]; simp [hj]
    · rw [if_neg hj, Option.map_eq_none_iff, indexK_none, List.mem_cons]
      constructor
      · rintro h (e | e)
        · exact hj e.symm
        · exact h e
      · intro h e; exact h (.inr e)
theorem indexK_first {k : Nm} {l : List Nm} {i : Nat} (h : l[i]? = some k) (hf : ∀ j, j < i → l[j]? ≠ some k) : indexK k l = some i := by
  cases hx : indexK k l with
  | none =>
    exact absurd (List.mem_of_getElem? h) (indexK_none.1 hx)
  | some m =>
    obtain ⟨h1, h2⟩ := indexK_some hx
    rcases Nat.lt_trichotomy m i with h3 | h3 | h3
    · exact absurd h1 (hf m h3)
    · rw [h3]
    · exact absurd h (h2 i h3)

mutual
/-- how many parts, and bytes of texts -/
def sizeV : V → Nat
  | .mk _ _ _ t l ks => 1 + t.length + (ks.map fun k => 1 + k.length).sum + sizesV l
def sizesV : List V → Nat
  | [] => 0
  | v :: l => sizeV v + sizesV l
end
theorem sizesV_app : ∀ (l m : List V), sizesV (l ++ m) = sizesV l + sizesV m
  | [], m => by simp [sizesV]
  | v :: l, m => by rw [List.cons_append, sizesV, sizesV, sizesV_app l m]; omega
theorem sizesV_len : ∀ l : List V, l.length ≤ sizesV l
  | [] => Nat.zero_le _
  | .mk s o n t k ks :: l => by have := sizesV_len l; rw [sizesV, sizeV, List.length_cons]; omega
theorem sizesV_mem : ∀ {l : List V} {x : V}, x ∈ l → sizeV x ≤ sizesV l
  | y :: l, x, h => by
    rw [sizesV]
    rcases List.mem_cons.1 h with rfl | h
    · omega
    · have := sizesV_mem h; omega
/-- a text is not much longer than its value -/
theorem quoteB_len (c : UInt8) : (quoteB c).length ≤ 6 := by
  unfold quoteB
  split
  · simp
  · split <;> simp
theorem quotes_len (t : Nm) : (t.flatMap quoteB).length ≤ 6 * t.length := by
  induction t with
  | nil => simp
  | cons c t ih =>
    rw [List.flatMap_cons, List.length_append, List.length_cons]
    have := quoteB_len c
    omega
theorem quoted_len (t : Nm) : (quoted t).length ≤ 6 * t.length + 2 := by
  have := quotes_len t
  unfold quoted
  simp only [List.length_cons, List.length_append, List.length_nil]; omega
theorem nDigits_le (n : Nat) (h : n < 10000000000000000) : Lib.nDigits n ≤ 16 := by
  have key : ∀ (k n : Nat), n < 10 ^ (k + 1) → Lib.nDigits n ≤ k + 1 := by
    intro k
    induction k with
    | zero => intro n hn; rw [Lib.nDigits_small (by simpa using hn)]; omega
    | succ k ih =>
      intro n hn
      by_cases h9 : n < 10
      · rw [Lib.nDigits_small h9]; omega
      · rw [Lib.nDigits_big h9]
        have := ih (n / 10) (by rw [Nat.pow_succ] at hn; omega)
        omega
  exact key 15 n h
theorem itoa_len (n : Int) (h1 : -9007199254740992 ≤ n) (h2 : n ≤ 9007199254740992) : (Lib.itoa n).length ≤ 17 := by
  unfold Lib.itoa
  split
  · rw [List.length_cons, Lib.decDigits_length]
    have := nDigits_le n.natAbs (by omega)
    omega
  · rw [Lib.decDigits_length]
    have := nDigits_le n.toNat (by omega)
    omega
theorem commas_len : ∀ l : List Nm, (commas l).length ≤ (l.map fun x => 1 + x.length).sum
  | [] => Nat.le_refl _
  | [x] => by simp [commas]
  | x :: y :: l => by
    have := commas_len (y :: l)
    simp only [commas, List.length_append, List.length_cons, List.map_cons, List.sum_cons] at this ⊢
    omega
theorem textKs_len : ∀ (l : List V) (ks : List Nm), l.length = ks.length → (∀ x ∈ l, (textV x).length + 1 ≤ 20 * sizeV x) → ((textKs l ks).map fun x => 1 + x.length).sum ≤ 20 * sizesV l + 6 * (ks.map fun k => 1 + k.length).sum
  | [], ks, _, _ => by simp [textKs]
  | v :: l, [], hl, _ => by simp at hl
  | v :: l, k :: ks, hl, h => by
    have ih := textKs_len l ks (by simpa using hl) fun x hx => h x (by simp [hx])
    have hv := h v (by simp)
    have hq := quoted_len k
    simp only [textKs, sizesV, List.headD_cons, List.tail_cons, List.map_cons, List.sum_cons, List.length_append, List.length_cons] at ih ⊢
    omega
theorem textsV_len : ∀ (l : List V), (∀ x ∈ l, (textV x).length + 1 ≤ 20 * sizeV x) → ((textsV l).map fun x => 1 + x.length).sum ≤ 20 * sizesV l
  | [], _ => by simp [textsV]
  | v :: l, h => by
    have ih := textsV_len l fun x hx => h x (by simp [hx])
    have hv := h v (by simp)
    simp only [textsV, sizesV, List.map_cons, List.sum_cons] at ih ⊢
    omega
theorem textV_len (v : V) : formed v = true → (textV v).length + 1 ≤ 20 * sizeV v := by
  induction v using V.ind with
  | h s on n t l ks ih =>
    intro hfm
    rw [formed, Bool.and_eq_true] at hfm
    obtain ⟨hh, hfl⟩ := hfm
    rw [formeds_all, List.all_eq_true] at hfl
    unfold headOk at hh
    simp only [Bool.and_eq_true, decide_eq_true_eq] at hh
    obtain ⟨⟨⟨⟨⟨⟨⟨⟨⟨-, -⟩, -⟩, -⟩, -⟩, hn1⟩, hn2⟩, -⟩, -⟩, hlast⟩ := hh
    have hk := fun x hx => ih x hx (hfl x hx)
    rw [textV, sizeV]
    split
    · split <;> (simp only [trueL, falseL, List.length_cons, List.length_nil]; omega)
    · split
      · have := itoa_len n hn1 hn2; omega
      · split
        · have := quoted_len t; omega
        · split
          · simp only [nullL, List.length_cons, List.length_nil]; omega
          · split
            · rename_i h5
              rw [if_pos h5, beq_iff_eq] at hlast
              have h1 := commas_len (textKs l ks)
              have h2 := textKs_len l ks hlast.symm hk
              simp only [List.length_cons, List.length_append, List.length_nil]
              omega
            · have h1 := commas_len (textsV l)
              have h2 := textsV_len l hk
              simp only [List.length_cons, List.length_append, List.length_nil]
              omega
end Go.Proofs.YtahiopjplfnlmaaGreatDoor
