/- Reasons, plainly: the looks of each round, the last round, the steps down. -/
import Derived.Test.YtadekfjgdbngdaaWhyL
import Derived.Test.YtadekfjgdbngdaaStep
import Derived.Test.YtadekfjgdbngdaaFwd
namespace Go.Proofs.Ytadekfjgdbngdaa
open Go

theorem longer_exists {E : List EdgeD} {rest : List Int} {n : Nat} (hlen : rest.length = n) (hok : ∀ e ∈ E, EdgeOk n e) : ∃ out, Longer E rest out := by
  have key : ∀ q, q ≤ E.length → ∃ out, Longer (E.take q) rest out := by
    intro q
    induction q with
    | zero => intro _; exact ⟨_, by rw [List.take_zero]; exact Longer.none rest n hlen⟩
    | succ q ih =>
      intro hq
      obtain ⟨out, ho⟩ := ih (by omega)
      obtain ⟨e, he⟩ := get_some (l := E) (i := q) (by omega)
      obtain ⟨h1, h2, h3, h4, h5, h6⟩ := hok e (List.mem_of_getElem? he)
      have hol := ho.len
      obtain ⟨d, hd⟩ := get_some (l := rest) (i := e.dst.toNat) (by omega)
      obtain ⟨s, hs⟩ := get_some (l := out) (i := e.src.toNat) (by omega)
      rw [take_snoc he]
      by_cases hd2 : d = -2
      · exact ⟨out, ho.skip (by rw [hd, hd2])⟩
      · by_cases hlt : s = -2 ∨ max d 0 + e.deref < s
        · exact ⟨_, ho.put hd hd2 hs hlt h5 h1⟩
        · exact ⟨out, ho.keep hd hs (fun h => hlt (.inl h)) (by omega)⟩
  obtain ⟨out, h⟩ := key _ (Nat.le_refl _)
  rw [List.take_length] at h
  exact ⟨out, h⟩

/-- the looks of each round, and the last one -/
structure WPlan (E : List EdgeD) (n D : Nat) (l0 : List Int) (t : Nat) (LK : Nat → List Int) (K : Nat) : Prop where
  zero : LK 0 = l0
  step : ∀ k, Longer E (LK k) (LK (k + 1))
  one : 1 ≤ K
  last : (LK K)[t]? = some (-1)
  first : ∀ j, 1 ≤ j → j < K → (LK j)[t]? ≠ some (-1)
  short : K ≤ n * (n * D + 2)
  len : ∀ k, (LK k).length = n
  bound : ∀ k, ∀ x ∈ LK k, -2 ≤ x ∧ x ≤ (k * D : Nat)

theorem WPlan.looks {E : List EdgeD} {n D : Nat} {l0 : List Int} {t : Nat} {LK : Nat → List Int} {K : Nat} (h : WPlan E n D l0 t LK K) (k : Nat) : Looks E l0 k (LK k) := by
  induction k with
  | zero => rw [h.zero]; exact .zero
  | succ k ih => exact .succ ih (h.step k)

theorem plan_exists {locs : List LocD} {edges : List EdgeD} {C : Nat → List Int} {bs : List Bool} {t D : Nat} (hC : ComeAll edges locs.length C) (hb : IsEsc locs C bs) (ht : bs[t]? = some true) (hok : ∀ e ∈ edges, EdgeOk locs.length e) (hD : ∀ e ∈ edges, e.deref ≤ D) :
    ∃ LK K, WPlan edges locs.length D (look0 (lpOf locs) bs t locs.length) t LK K := by
  have hex : ∀ rest : List Int, ∃ out, rest.length = locs.length → Longer edges rest out := fun rest => by
    by_cases h : rest.length = locs.length
    · obtain ⟨out, ho⟩ := longer_exists h hok; exact ⟨out, fun _ => ho⟩
    · exact ⟨[], fun h' => absurd h' h⟩
  obtain ⟨nx, hnx⟩ : ∃ nx : List Int → List Int, ∀ rest, rest.length = locs.length → Longer edges rest (nx rest) := ⟨fun r => Classical.choose (hex r), fun r => Classical.choose_spec (hex r)⟩
  obtain ⟨LK, h0, hs⟩ : ∃ LK : Nat → List Int, LK 0 = look0 (lpOf locs) bs t locs.length ∧ ∀ k, LK (k + 1) = nx (LK k) := ⟨fun k => Nat.rec (look0 (lpOf locs) bs t locs.length) (fun _ l => nx l) k, rfl, fun _ => rfl⟩
  have hlen : ∀ k, (LK k).length = locs.length := by
    intro k
    induction k with
    | zero => rw [h0, look0_len]
    | succ k ih => rw [hs, (hnx _ ih).len, ih]
  have hstep : ∀ k, Longer edges (LK k) (LK (k + 1)) := fun k => by rw [hs]; exact hnx _ (hlen k)
  have hlooks : ∀ k, Looks edges (look0 (lpOf locs) bs t locs.length) k (LK k) := by
    intro k
    induction k with
    | zero => rw [h0]; exact .zero
    | succ k ih => exact .succ ih (hstep k)
  obtain ⟨k, hk, hk1, hw⟩ := esc_way hC hb ((hb.2 t).1 ht) hok hD
  have hlast := hw.stop hok hk1 (hlooks k)
  obtain ⟨K, ⟨hK1, hK2⟩, hK3⟩ : ∃ K, (1 ≤ K ∧ (LK K)[t]? = some (-1)) ∧ ∀ j, j < K → ¬ (1 ≤ j ∧ (LK j)[t]? = some (-1)) := by
    have hex : ∃ K, 1 ≤ K ∧ (LK K)[t]? = some (-1) := ⟨k, hk1, hlast⟩
    clear hk hk1 hw hlast
    obtain ⟨k, hk⟩ := hex
    induction k using Nat.strongRecOn with
    | ind k ih =>
      by_cases h : ∃ j, j < k ∧ 1 ≤ j ∧ (LK j)[t]? = some (-1)
      · obtain ⟨j, hj, h1⟩ := h; exact ih j hj h1
      · exact ⟨k, hk, fun j hj h1 => h ⟨j, hj, h1⟩⟩
  refine ⟨LK, K, h0, hstep, hK1, hK2, fun j h1 h2 h3 => hK3 j h2 ⟨h1, h3⟩, ?_, hlen, fun k x hx => ?_⟩
  · rcases Nat.lt_or_ge k K with h | h
    · exact absurd ⟨hk1, hlast⟩ (hK3 k h)
    · omega
  · obtain ⟨i, hi⟩ := List.getElem?_of_mem hx
    by_cases hx2 : x = -2
    · subst hx2; exact ⟨by decide, by omega⟩
    · refine ⟨?_, (hlooks k).high hD (fun i v hv => ?_) hi hx2⟩
      · cases k with
        | zero => rw [h0] at hi; have := (look0_val hi hx2).1; omega
        | succ k => have := (hlooks (k + 1)).low hok hi hx2; omega
      · by_cases hv2 : v = -2
        · omega
        · have := (look0_val hv hv2).1; omega

/-- the first edge in order that leaves room: the program's step down -/
def pick (rest : List Int) (m : Int) (l : List EdgeD) : Option EdgeD := l.find? fun e => decide (∃ x, rest[e.dst.toNat]? = some x ∧ x ≠ -2 ∧ max x 0 + e.deref ≤ m)
instance (rest : List Int) (i : Nat) (d m : Int) : Decidable (∃ x, rest[i]? = some x ∧ x ≠ -2 ∧ max x 0 + d ≤ m) :=
  match h : rest[i]? with
  | none => isFalse fun ⟨x, hx, _⟩ => by cases hx
  | some x => if hx : x ≠ -2 ∧ max x 0 + d ≤ m then isTrue ⟨x, rfl, hx⟩ else isFalse fun ⟨y, hy, h2⟩ => by cases hy; exact hx h2
end Go.Proofs.Ytadekfjgdbngdaa
