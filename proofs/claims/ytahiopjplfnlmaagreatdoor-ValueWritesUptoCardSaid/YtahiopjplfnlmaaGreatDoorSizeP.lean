/- What is read of a text is no bigger than the text: plainly. -/
import Derived.Test.YtahiopjplfnlmaaGreatDoorAliv
namespace Go.Proofs.YtahiopjplfnlmaaGreatDoor
open Go

theorem escaped_size {s x r : Nm} (h : escaped s = some (x, r)) : x.length + r.length ≤ s.length := by
  cases s with
  | nil => cases h
  | cons c s =>
    simp only [escaped] at h
    split at h
    · cases h; simp; omega
    · split at h
      · cases h
      · split at h
        · cases h
        · rename_i a r1 h1
          have l1 : r1.length + 4 = s.length := by
            unfold unit4 at h1
            split at h1
            · split at h1
              · cases h1; simp
              · cases h1
            · cases h1
          split at h
          · cases h
            have := scalarB_len a
            simp only [List.length_cons]; omega
          · split at h
            · cases h
            · rename_i r2 h2
              have l2 := takes_len h2
              split at h
              · cases h
              · rename_i b r3 h3
                have l3 := unit4_len h3
                split at h
                · injection h with h
                  injection h with h h4
                  subst h; subst h4
                  have := scalarB_len (pairN a b)
                  simp only [List.length_cons, List.length_nil] at l2 ⊢
                  omega
                · cases h
theorem strL_size : ∀ (f : Nat) {acc s x r : Nm}, strL f acc s = some (x, r) → x.length + r.length + 1 ≤ acc.length + s.length
  | 0, acc, s, x, r, h => by simp [strL] at h
  | f + 1, acc, [], x, r, h => by simp [strL] at h
  | f + 1, acc, c :: s, x, r, h => by
    simp only [strL] at h
    split at h
    · cases h
    · split at h
      · cases h; simp; omega
      · split at h
        · split at h
          · cases h
          · rename_i y r1 h1
            have := escaped_size h1
            have := strL_size f h
            simp only [List.length_append, List.length_cons] at *; omega
        · have := strL_size f h
          simp only [List.length_append, List.length_cons, List.length_nil] at *; omega
theorem quoteL_size {s x r : Nm} (h : quoteL s = some (x, r)) : x.length + r.length + 2 ≤ s.length := by
  unfold quoteL at h
  split at h
  · cases h
  · rename_i r1 h1
    have l1 := takes_len h1
    have l2 := strL_size _ h
    simp only [List.length_cons, List.length_nil] at l1 l2
    omega
theorem keyL_size {s k r : Nm} {ks : List Nm} (h : keyL s ks = some (k, r)) : 1 + k.length + r.length ≤ s.length := by
  unfold keyL at h
  split at h
  · cases h
  · rename_i k1 r1 h1
    have l1 := quoteL_size h1
    have l0 := skip_len s
    split at h
    · cases h
    · split at h
      · cases h
      · rename_i r2 h2
        have l2 := takes_len h2
        have l3 := skip_len r1
        cases h
        simp only [List.length_cons, List.length_nil] at l2
        omega
theorem numL_lt {s r : Nm} {n : Int} (h : numL s = some (n, r)) : r.length < s.length := by
  unfold numL at h
  split at h
  · rename_i m hm
    split at h
    · cases h
      have hl := numRest_len s
      rcases Nat.lt_or_ge (numRest s).length s.length with h1 | h1
      · exact h1
      · exfalso
        have he : numHead s = [] := by unfold numHead; rw [show s.length - (numRest s).length = 0 by omega]; rfl
        rw [he] at hm
        cases hm
    · cases h
  · cases h
theorem plainL_size {s r : Nm} {v : V} (h : plainL s = .ok v r) : sizeV v + r.length ≤ s.length := by
  unfold plainL at h
  split at h
  · split at h
    · cases h
    · rename_i t r1 h1
      have := quoteL_size h1
      cases h
      simp [sizeV, sizesV]; omega
  · split at h
    · split at h
      · cases h
      · rename_i n r1 h1
        have := numL_lt h1
        cases h
        simp [sizeV, sizesV]; omega
    · split at h
      · rename_i r1 h1
        have := takes_len h1
        cases h
        simp [sizeV, sizesV, trueL] at *; omega
      · split at h
        · rename_i r1 h1
          have := takes_len h1
          cases h
          simp [sizeV, sizesV, falseL] at *; omega
        · split at h
          · rename_i r1 h1
            have := takes_len h1
            cases h
            simp [V.null, sizeV, sizesV, nullL] at *; omega
          · cases h
def keysZ (ks : List Nm) : Nat := (ks.map fun k => 1 + k.length).sum
theorem keysZ_app (ks : List Nm) (k : Nm) : keysZ (ks ++ [k]) = keysZ ks + (1 + k.length) := by simp [keysZ]
theorem sizeV_mk (s : Int) (vs : List V) (ks : List Nm) : sizeV (.mk s false 0 [] vs ks) = 1 + keysZ ks + sizesV vs := by simp [sizeV, keysZ]
theorem sizesV_one (vs : List V) (x : V) : sizesV (vs ++ [x]) = sizesV vs + sizeV x := by rw [sizesV_app]; simp [sizesV]
theorem read_size : ∀ f : Nat, (∀ o s v r, valL f o s = .ok v r → sizeV v + r.length ≤ s.length) ∧ (∀ o sort e s v r, partsL f o sort e s = .ok v r → sizeV v + r.length ≤ s.length) ∧
    (∀ o sort e s vs ks v r, loopL f o sort e s vs ks = .ok v r → sizeV v + r.length ≤ sizesV vs + keysZ ks + s.length) ∧ (∀ o sort e s vs ks v r, elemL f o sort e s vs ks = .ok v r → sizeV v + r.length ≤ sizesV vs + keysZ ks + s.length)
  | 0 => ⟨fun _ _ _ _ h => by simp [valL] at h, fun _ _ _ _ _ _ h => by simp [partsL] at h, fun _ _ _ _ _ _ _ _ h => by simp [loopL] at h, fun _ _ _ _ _ _ _ _ h => by simp [elemL] at h⟩
  | f + 1 => by
    obtain ⟨h1, h2, h3, h4⟩ := read_size f
    refine ⟨fun o s v r h => ?_, fun o sort e s v r h => ?_, fun o sort e s vs ks v r h => ?_, fun o sort e s vs ks v r h => ?_⟩
    · rw [valL_fin] at h
      have hs := skip_len s
      have key : ∀ v r, headL f o (skip s) = .ok v r → sizeV v + r.length ≤ (skip s).length := by
        intro v r h
        unfold headL at h
        split at h
        · rename_i r1 e1
          have := h2 _ _ _ _ _ _ h
          have := takes_len e1
          omega
        · split at h
          · rename_i r1 e1
            have := h2 _ _ _ _ _ _ h
            have := takes_len e1
            omega
          · exact plainL_size h
      revert h key
      cases headL f o (skip s) with
      | out => intro h; cases h
      | err k => intro h; cases h
      | ok v' r' =>
        intro h key
        have k := key v' r' rfl
        cases h
        have := skip_len r'
        omega
    · rw [partsL_step] at h
      have hs := skip_len s
      split at h
      · cases h
      · split at h
        · rename_i r1 e1
          have := takes_len e1
          cases h
          simp only [List.length_cons, List.length_nil] at this
          rw [sizeV_mk]; simp [keysZ, sizesV]; omega
        · have := h3 _ _ _ _ _ _ _ _ h
          simp [keysZ, sizesV] at this; omega
    · rw [loopL_step] at h
      split at h
      · split at h
        · cases h
        · rename_i k r1 e1
          have := keyL_size e1
          have := h4 _ _ _ _ _ _ _ _ h
          rw [keysZ_app] at this
          omega
      · exact h4 _ _ _ _ _ _ _ _ h
    · rw [elemL_step] at h
      revert h
      cases hx : valL f o s with
      | out => intro h; cases h
      | err k => intro h; cases h
      | ok x r1 =>
        intro h
        have l1 := h1 _ _ _ _ hx
        simp only at h
        split at h
        · rename_i r2 e1
          have := takes_len e1
          cases h
          simp only [List.length_cons, List.length_nil] at this
          rw [sizeV_mk, sizesV_one]; omega
        · split at h
          · rename_i r2 e1
            have := takes_len e1
            have := h3 _ _ _ _ _ _ _ _ h
            rw [sizesV_one] at this
            omega
          · cases h
theorem readL_size {s : Nm} {v : V} {r : Nm} (h : readL s = .ok v r) : sizeV v ≤ s.length := by
  unfold readL at h
  split at h
  · revert h
    cases hx : valL (steps s) 0 s with
    | out => intro h; cases h
    | err k => intro h; cases h
    | ok x r1 =>
      intro h
      have := (read_size _).1 _ _ _ _ hx
      simp only at h
      split at h
      · cases h; omega
      · cases h
  · cases h
end Go.Proofs.YtahiopjplfnlmaaGreatDoor
