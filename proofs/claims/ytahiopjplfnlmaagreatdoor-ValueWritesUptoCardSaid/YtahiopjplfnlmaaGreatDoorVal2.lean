/- What a text is read to: how long what is left is; enough steps. -/
import Derived.Test.YtahiopjplfnlmaaGreatDoorVal
namespace Go.Proofs.YtahiopjplfnlmaaGreatDoor
open Go

theorem takes_some {p s r : Nm} (h : takes p s = some r) : s = p ++ r := by
  unfold takes at h
  split at h
  · rename_i h1
    cases h
    have e := List.take_append_drop p.length s
    rw [h1] at e
    exact e.symm
  · cases h
theorem takes_app (p r : Nm) : takes p (p ++ r) = some r := by
  unfold takes
  rw [if_pos (by simp)]; simp
theorem takes_none {p s : Nm} (h : takes p s = none) : ∀ r, s ≠ p ++ r := by
  intro r he
  rw [he, takes_app] at h; cases h
theorem takes_len {p s r : Nm} (h : takes p s = some r) : s.length = p.length + r.length := by rw [takes_some h, List.length_append]
theorem skip_len (s : Nm) : (skip s).length ≤ s.length := by
  unfold skip
  induction s with
  | nil => exact Nat.le_refl _
  | cons c s ih => rw [List.dropWhile_cons]; split <;> simp <;> omega
theorem unit4_len {s r : Nm} {a : Nat} (h : unit4 s = some (a, r)) : r.length < s.length := by
  unfold unit4 at h
  split at h
  · split at h
    · cases h; simp only [List.length_cons]; omega
    · cases h
  · cases h
theorem escaped_len {s x r : Nm} (h : escaped s = some (x, r)) : r.length < s.length := by
  cases s with
  | nil => cases h
  | cons c s =>
    simp only [escaped] at h
    split at h
    · cases h; simp
    · split at h
      · cases h
      · split at h
        · cases h
        · rename_i a r1 h1
          have l1 := unit4_len h1
          split at h
          · cases h; simp; omega
          · split at h
            · cases h
            · rename_i r2 h2
              have l2 := takes_len h2
              split at h
              · cases h
              · rename_i b r3 h3
                have l3 := unit4_len h3
                split at h
                · (injection h with h; injection h with _ h; rw [← h]; simp only [List.length_cons]; simp only [List.length_cons, List.length_nil] at l2; omega)
                · cases h
theorem strL_len : ∀ (f : Nat) {acc s x r : Nm}, strL f acc s = some (x, r) → r.length < s.length
  | 0, acc, s, x, r, h => by simp [strL] at h
  | f + 1, acc, [], x, r, h => by simp [strL] at h
  | f + 1, acc, c :: s, x, r, h => by
    simp only [strL] at h
    split at h
    · cases h
    · split at h
      · cases h; simp
      · split at h
        · split at h
          · cases h
          · rename_i y r1 h1
            have := escaped_len h1
            have := strL_len f h
            simp; omega
        · have := strL_len f h
          simp; omega
theorem quoteL_len {s x r : Nm} (h : quoteL s = some (x, r)) : r.length < s.length := by
  unfold quoteL at h
  split at h
  · cases h
  · rename_i r1 h1
    have l1 := takes_len h1
    have l2 := strL_len _ h
    simp only [List.length_cons, List.length_nil] at l1
    omega
/-- more steps than a text is long make no other answer -/
theorem strL_fuel : ∀ (f g : Nat) (acc s : Nm), s.length < f → s.length < g → strL f acc s = strL g acc s
  | 0, _, _, _, h, _ => by omega
  | _ + 1, 0, _, _, _, h => by omega
  | f + 1, g + 1, acc, [], _, _ => rfl
  | f + 1, g + 1, acc, c :: s, h, k => by
    simp only [List.length_cons] at h k
    simp only [strL]
    split
    · rfl
    · split
      · rfl
      · split
        · split
          · rfl
          · rename_i y r1 h1
            have := escaped_len h1
            exact strL_fuel f g _ _ (by omega) (by omega)
        · exact strL_fuel f g _ _ (by omega) (by omega)
theorem numRest_len (s : Nm) : (numRest s).length ≤ s.length := by
  have h : ∀ l : Nm, (l.dropWhile isFig).length ≤ l.length := fun l => by
    induction l with
    | nil => exact Nat.le_refl _
    | cons c s ih => rw [List.dropWhile_cons]; split <;> simp <;> omega
  unfold numRest
  split
  · rename_i r h1
    have := takes_len h1
    have := h r
    omega
  · exact h s
theorem keyL_len {s k r : Nm} {ks : List Nm} (h : keyL s ks = some (k, r)) : r.length < s.length := by
  unfold keyL at h
  split at h
  · cases h
  · rename_i x r1 h1
    have := quoteL_len h1
    have := skip_len s
    split at h
    · cases h
    · split at h
      · cases h
      · rename_i r2 h2
        cases h
        have := takes_len h2
        have := skip_len r1
        omega
theorem plainL_len {s r : Nm} {v : V} (h : plainL s = .ok v r) : r.length ≤ s.length := by
  unfold plainL at h
  split at h
  · split at h
    · cases h
    · rename_i t r1 h1; cases h; have := quoteL_len h1; omega
  · split at h
    · split at h
      · cases h
      · rename_i n r1 h1
        cases h
        unfold numL at h1
        split at h1
        · split at h1
          · cases h1; exact numRest_len s
          · cases h1
        · cases h1
    · split at h
      · rename_i h1; cases h; have := takes_len h1; omega
      · split at h
        · rename_i h1; cases h; have := takes_len h1; omega
        · split at h
          · rename_i h1; cases h; have := takes_len h1; omega
          · cases h
theorem plainL_out (s : Nm) : plainL s ≠ .out := by
  unfold plainL
  split
  · split <;> simp
  · split
    · split <;> simp
    · split
      · simp
      · split
        · simp
        · split <;> simp

/-- what stands behind a value's first byte -/
theorem valL_step (f o : Nat) (s : Nm) : valL (f + 1) o s = match (match takes [123] (skip s) with
      | some r => partsL f o 5 125 r
      | none => match takes [91] (skip s) with
        | some r => partsL f o 4 93 r
        | none => plainL (skip s)) with
    | .ok v r => .ok v (skip r)
    | e => e := by rw [valL]; rfl
theorem partsL_step (f o : Nat) (sort : Int) (e : UInt8) (s : Nm) : partsL (f + 1) o sort e s = if 20 ≤ o then .err 22
    else match takes [e] (skip s) with
      | some r => .ok (.mk sort false 0 [] [] []) r
      | none => loopL f (o + 1) sort e (skip s) [] [] := by rw [partsL]; rfl
theorem loopL_step (f o : Nat) (sort : Int) (e : UInt8) (s : Nm) (vs : List V) (ks : List Nm) : loopL (f + 1) o sort e s vs ks =
    if sort = 5 then
      match keyL s ks with
      | none => .err 21
      | some (k, r) => elemL f o sort e r vs (ks ++ [k])
    else elemL f o sort e s vs ks := by rw [loopL]; rfl
theorem elemL_step (f o : Nat) (sort : Int) (e : UInt8) (s : Nm) (vs : List V) (ks : List Nm) : elemL (f + 1) o sort e s vs ks =
    match valL f o s with
    | .ok x r =>
      match takes [e] r with
      | some r => .ok (.mk sort false 0 [] (vs ++ [x]) ks) r
      | none => match takes [44] r with
        | some r => loopL f o sort e r (vs ++ [x]) ks
        | none => .err 21
    | r => r := by rw [elemL]; rfl

theorem read_len : ∀ f : Nat, (∀ o s v r, valL f o s = .ok v r → r.length ≤ s.length) ∧ (∀ o sort e s v r, partsL f o sort e s = .ok v r → r.length ≤ s.length) ∧
    (∀ o sort e s vs ks v r, loopL f o sort e s vs ks = .ok v r → r.length ≤ s.length) ∧ (∀ o sort e s vs ks v r, elemL f o sort e s vs ks = .ok v r → r.length ≤ s.length)
  | 0 => ⟨fun _ _ _ _ h => by simp [valL] at h, fun _ _ _ _ _ _ h => by simp [partsL] at h, fun _ _ _ _ _ _ _ _ h => by simp [loopL] at h, fun _ _ _ _ _ _ _ _ h => by simp [elemL] at h⟩
  | f + 1 => by
    obtain ⟨h1, h2, h3, h4⟩ := read_len f
    refine ⟨fun o s v r h => ?_, fun o sort e s v r h => ?_, fun o sort e s vs ks v r h => ?_, fun o sort e s vs ks v r h => ?_⟩
    · rw [valL_step] at h
      have hs := skip_len s
      split at h
      · rename_i v1 r1 h5
        cases h
        have h6 := skip_len r1
        split at h5
        · rename_i r2 h7
          have := takes_len h7
          have := h2 _ _ _ _ _ _ h5
          omega
        · split at h5
          · rename_i r2 h7
            have := takes_len h7
            have := h2 _ _ _ _ _ _ h5
            omega
          · have := plainL_len h5
            omega
      · rename_i hne; exact absurd h (hne _ _)
    · rw [partsL_step] at h
      have hs := skip_len s
      split at h
      · cases h
      · split at h
        · rename_i h7; cases h; have := takes_len h7; omega
        · have := h3 _ _ _ _ _ _ _ _ h
          omega
    · rw [loopL_step] at h
      split at h
      · split at h
        · cases h
        · rename_i k r1 h5
          have := keyL_len h5
          have := h4 _ _ _ _ _ _ _ _ h
          omega
      · exact h4 _ _ _ _ _ _ _ _ h
    · rw [elemL_step] at h
      split at h
      · rename_i x r1 h5
        have := h1 _ _ _ _ h5
        split at h
        · rename_i h7; cases h; have := takes_len h7; omega
        · split at h
          · rename_i h7
            have := takes_len h7
            have := h3 _ _ _ _ _ _ _ _ h
            omega
          · cases h
      · rename_i hne; exact absurd h (hne _ _)

theorem read_enough : ∀ f : Nat, (∀ o s, 4 * s.length + 1 ≤ f → valL f o s ≠ .out) ∧ (∀ o sort e s, 4 * s.length + 4 ≤ f → partsL f o sort e s ≠ .out) ∧
    (∀ o sort e s vs ks, 4 * s.length + 3 ≤ f → loopL f o sort e s vs ks ≠ .out) ∧ (∀ o sort e s vs ks, 4 * s.length + 2 ≤ f → elemL f o sort e s vs ks ≠ .out)
  | 0 => ⟨fun _ _ h => by omega, fun _ _ _ _ h => by omega, fun _ _ _ _ _ _ h => by omega, fun _ _ _ _ _ _ h => by omega⟩
  | f + 1 => by
    obtain ⟨h1, h2, h3, h4⟩ := read_enough f
    refine ⟨fun o s hl => ?_, fun o sort e s hl => ?_, fun o sort e s vs ks hl => ?_, fun o sort e s vs ks hl => ?_⟩
    · rw [valL_step]
      have hs := skip_len s
      split
      · simp
      · split
        · rename_i r h7
          have := takes_len h7
          simp at this
          exact h2 _ _ _ _ (by omega)
        · split
          · rename_i r h7
            have := takes_len h7
            simp at this
            exact h2 _ _ _ _ (by omega)
          · exact plainL_out _
    · rw [partsL_step]
      have hs := skip_len s
      split
      · simp
      · split
        · simp
        · exact h3 _ _ _ _ _ _ (by omega)
    · rw [loopL_step]
      split
      · split
        · simp
        · rename_i k r1 h5
          have := keyL_len h5
          exact h4 _ _ _ _ _ _ (by omega)
      · exact h4 _ _ _ _ _ _ (by omega)
    · rw [elemL_step]
      split
      · rename_i x r1 h5
        have := (read_len f).1 _ _ _ _ h5
        split
        · simp
        · split
          · rename_i h7
            have := takes_len h7
            simp at this
            exact h3 _ _ _ _ _ _ (by omega)
          · simp
      · exact h1 _ _ (by omega)

theorem read_more : ∀ f : Nat, (∀ o s, valL f o s ≠ .out → valL (f + 1) o s = valL f o s) ∧ (∀ o sort e s, partsL f o sort e s ≠ .out → partsL (f + 1) o sort e s = partsL f o sort e s) ∧
    (∀ o sort e s vs ks, loopL f o sort e s vs ks ≠ .out → loopL (f + 1) o sort e s vs ks = loopL f o sort e s vs ks) ∧ (∀ o sort e s vs ks, elemL f o sort e s vs ks ≠ .out → elemL (f + 1) o sort e s vs ks = elemL f o sort e s vs ks)
  | 0 => ⟨fun _ _ h => by simp [valL] at h, fun _ _ _ _ h => by simp [partsL] at h, fun _ _ _ _ _ _ h => by simp [loopL] at h, fun _ _ _ _ _ _ h => by simp [elemL] at h⟩
  | f + 1 => by
    obtain ⟨h1, h2, h3, h4⟩ := read_more f
    refine ⟨fun o s hl => ?_, fun o sort e s hl => ?_, fun o sort e s vs ks hl => ?_, fun o sort e s vs ks hl => ?_⟩
    · rw [valL_step f] at hl ⊢
      rw [valL_step]
      cases h7 : takes [123] (skip s) with
      | some r =>
        simp only [h7] at hl ⊢
        rw [h2]
        intro he
        rw [he] at hl; exact hl rfl
      | none =>
        cases h8 : takes [91] (skip s) with
        | some r =>
          simp only [h7, h8] at hl ⊢
          rw [h2]
          intro he
          rw [he] at hl; exact hl rfl
        | none => rfl
    · rw [partsL_step f] at hl ⊢
      rw [partsL_step]
      split
      · rfl
      · rename_i h9
        rw [if_neg h9] at hl
        split
        · rfl
        · rename_i h7
          rw [h7] at hl
          exact h3 _ _ _ _ _ _ hl
    · rw [loopL_step f] at hl ⊢
      rw [loopL_step]
      split
      · rename_i h9
        rw [if_pos h9] at hl
        split
        · rfl
        · rename_i k r1 h5
          rw [h5] at hl
          exact h4 _ _ _ _ _ _ hl
      · rename_i h9
        rw [if_neg h9] at hl
        exact h4 _ _ _ _ _ _ hl
    · rw [elemL_step f] at hl ⊢
      rw [elemL_step]
      have h5 : valL f o s ≠ .out := fun he => by rw [he] at hl; exact hl rfl
      rw [h1 _ _ h5]
      cases h6 : valL f o s with
      | out => exact absurd h6 h5
      | err e => rfl
      | ok x r =>
        rw [h6] at hl
        simp only at hl ⊢
        split
        · rfl
        · rename_i h7
          rw [h7] at hl
          simp only at hl
          split
          · rename_i r2 h8
            rw [h8] at hl
            exact h3 _ _ _ _ _ _ hl
          · rfl
theorem valL_more {f o : Nat} {s : Nm} (h : valL f o s ≠ .out) : ∀ k, valL (f + k) o s = valL f o s
  | 0 => rfl
  | k + 1 => by
    have e := valL_more h k
    rw [← e, Nat.add_succ]
    exact (read_more (f + k)).1 o s (by rw [e]; exact h)
/-- one answer, however many steps -/
theorem valL_same {f g o : Nat} {s : Nm} (h : valL f o s ≠ .out) (k : valL g o s ≠ .out) : valL f o s = valL g o s := by
  have h1 := valL_more h g
  have h2 := valL_more k f
  rw [← h1, ← h2, Nat.add_comm]
theorem valL_steps (o : Nat) (s : Nm) : valL (steps s) o s ≠ .out := (read_enough _).1 o s (by unfold steps; omega)
end Go.Proofs.YtahiopjplfnlmaaGreatDoor
