/- Reasons, plainly: of what escapes there is a short way. -/
import Derived.Test.YtadekfjgdbngdaaWhyD
import Derived.Test.YtadekfjgdbngdaaEscs
namespace Go.Proofs.Ytadekfjgdbngdaa
open Go

/-- who escapes has a root that is another one -/
theorem Esc.root {n : Nat} {C : Nat → List Int} {lp : Nat → Int} {l : Nat} (h : Esc n C lp l) : ∃ r, r ≠ l ∧ r < n ∧ (C r)[l]? = some (-1) ∧ (r < 2 ∨ Esc n C lp r ∨ lp r < lp l) ∧ l < n := by
  induction h with
  | @out r l h2 hl hr hc ho =>
    refine ⟨r, fun e => ?_, hr, hc, ho.elim .inl (fun q => .inr (.inr q)), hl⟩
    subst e
    rcases ho with q | q <;> omega
  | @via r l h2 hl hr hc ho ih =>
    by_cases e : r = l
    · subst e; exact ih
    · exact ⟨r, e, hr, hc, .inr (.inl ho), hl⟩

/-- of what escapes there is a way whose look is -1, and it is short -/
theorem esc_way {locs : List LocD} {edges : List EdgeD} {C : Nat → List Int} {bs : List Bool} {t D : Nat} (hC : ComeAll edges locs.length C) (hb : IsEsc locs C bs) (ht : Esc locs.length C (lpOf locs) t) (hok : ∀ e ∈ edges, EdgeOk locs.length e) (hD : ∀ e ∈ edges, e.deref ≤ D) :
    ∃ k, k ≤ locs.length * (locs.length * D + 2) ∧ 1 ≤ k ∧ WayK edges (look0 (lpOf locs) bs t locs.length) k t (-1) := by
  obtain ⟨r, hne, hr, hc, ho, hl⟩ := ht.root
  have h0 : (look0 (lpOf locs) bs t locs.length)[r]? = some 0 := by
    rw [look0_get hr, if_pos]
    rcases ho with q | q | q
    · exact .inl q
    · exact .inr (.inl ⟨(hb.2 r).2 q, hne⟩)
    · exact .inr (.inr q)
  obtain ⟨k, hk, hw⟩ := (hC r hr).within hr h0 hok hD t (-1) hc (by decide)
  refine ⟨k, hk, ?_, hw⟩
  cases k with
  | succ k => omega
  | zero => cases hw with
    | nil h hv => have := (look0_val h hv).1; omega

end Go.Proofs.Ytadekfjgdbngdaa
