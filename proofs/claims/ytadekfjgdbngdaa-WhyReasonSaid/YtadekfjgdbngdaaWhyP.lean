/- Reasons, plainly: looks of ways of so many edges to what outlives. -/
import Derived.Test.YtadekfjgdbngdaaPlain
namespace Go.Proofs.Ytadekfjgdbngdaa
open Go

/-- by one edge more -/
structure Longer (E : List EdgeD) (rest out : List Int) : Prop where
  len : out.length = rest.length
  ways : ∀ (i : Nat) v, out[i]? = some v → v ≠ -2 → ∃ e ∈ E, e.src = i ∧ ∃ d, rest[e.dst.toNat]? = some d ∧ d ≠ -2 ∧ v = max d 0 + e.deref
  least : ∀ e ∈ E, ∀ d, rest[e.dst.toNat]? = some d → d ≠ -2 → ∃ u, out[e.src.toNat]? = some u ∧ u ≠ -2 ∧ u ≤ max d 0 + e.deref

theorem Longer.unique {E : List EdgeD} {rest a b : List Int} (ha : Longer E rest a) (hb : Longer E rest b) : a = b := by
  apply List.ext_getElem?
  intro i
  rcases Nat.lt_or_ge i rest.length with h | h
  · obtain ⟨x, hx⟩ : ∃ x, a[i]? = some x := ⟨_, List.getElem?_eq_getElem (by rw [ha.len]; exact h)⟩
    obtain ⟨y, hy⟩ : ∃ y, b[i]? = some y := ⟨_, List.getElem?_eq_getElem (by rw [hb.len]; exact h)⟩
    have h1 : x ≠ -2 → y ≠ -2 ∧ y ≤ x := fun hne => by
      obtain ⟨e, he, hs, d, hd, hd2, hv⟩ := ha.ways i x hx hne
      obtain ⟨u, hu, hu1, hu2⟩ := hb.least e he d hd hd2
      rw [hs, Int.toNat_natCast, hy] at hu; cases hu; exact ⟨hu1, by omega⟩
    have h2 : y ≠ -2 → x ≠ -2 ∧ x ≤ y := fun hne => by
      obtain ⟨e, he, hs, d, hd, hd2, hv⟩ := hb.ways i y hy hne
      obtain ⟨u, hu, hu1, hu2⟩ := ha.least e he d hd hd2
      rw [hs, Int.toNat_natCast, hx] at hu; cases hu; exact ⟨hu1, by omega⟩
    rw [hx, hy]
    congr 1
    by_cases h3 : x = -2
    · by_cases h4 : y = -2
      · rw [h3, h4]
      · exact absurd h3 (h2 h4).1
    · have h5 := h1 h3
      have h6 := h2 h5.1
      omega
  · rw [List.getElem?_eq_none (by rw [ha.len]; exact h), List.getElem?_eq_none (by rw [hb.len]; exact h)]

/-- looks behind k edges more -/
inductive Looks (E : List EdgeD) (l0 : List Int) : Nat → List Int → Prop
  | zero : Looks E l0 0 l0
  | succ {k : Nat} {a b : List Int} (h : Looks E l0 k a) (hl : Longer E a b) : Looks E l0 (k + 1) b
theorem Looks.unique {E : List EdgeD} {l0 : List Int} {k : Nat} {a b : List Int} (ha : Looks E l0 k a) (hb : Looks E l0 k b) : a = b := by
  induction ha generalizing b with
  | zero => cases hb; rfl
  | succ h hl ih =>
    cases hb with
    | succ h' hl' =>
      obtain rfl := ih h'
      exact hl.unique hl'
theorem Looks.len {E : List EdgeD} {l0 : List Int} {k : Nat} {a : List Int} (h : Looks E l0 k a) : a.length = l0.length := by
  induction h with
  | zero => rfl
  | succ _ hl ih => rw [hl.len, ih]

/-- a way of k edges to where l0 begins, and its look -/
inductive WayK (E : List EdgeD) (l0 : List Int) : Nat → Nat → Int → Prop
  | nil {i : Nat} {v : Int} (h : l0[i]? = some v) (hv : v ≠ -2) : WayK E l0 0 i v
  | cons {k i : Nat} {v : Int} (e : EdgeD) (he : e ∈ E) (hd : e.dst = i) (hs : 0 ≤ e.src) (h : WayK E l0 k i v) : WayK E l0 (k + 1) e.src.toNat (max v 0 + e.deref)

theorem Looks.least {E : List EdgeD} {l0 : List Int} {k i : Nat} {v : Int} (hw : WayK E l0 k i v) : ∀ {a : List Int}, Looks E l0 k a → ∃ u, a[i]? = some u ∧ u ≠ -2 ∧ u ≤ v := by
  induction hw with
  | nil h hv => intro a ha; cases ha; exact ⟨_, h, hv, Int.le_refl _⟩
  | cons e he hd hs _ ih =>
    intro a ha
    cases ha with
    | succ ha hl =>
      obtain ⟨u, hu, hu1, hu2⟩ := ih ha
      obtain ⟨x, hx, hx1, hx2⟩ := hl.least e he u (by rw [hd, Int.toNat_natCast]; exact hu) hu1
      exact ⟨x, hx, hx1, by omega⟩
theorem Looks.ways {E : List EdgeD} {l0 : List Int} (hE : ∀ e ∈ E, 0 ≤ e.dst) {k : Nat} {a : List Int} (ha : Looks E l0 k a) : ∀ {i : Nat} {v : Int}, a[i]? = some v → v ≠ -2 → WayK E l0 k i v := by
  induction ha with
  | zero => intro i v h hv; exact .nil h hv
  | succ _ hl ih =>
    intro i v h hv
    obtain ⟨e, he, hs, d, hd, hd2, rfl⟩ := hl.ways i v h hv
    have := WayK.cons (E := E) e he (by have := hE e he; omega : e.dst = (e.dst.toNat : Int)) (by omega) (ih hd hd2)
    rw [hs, Int.toNat_natCast] at this
    exact this

/-- each value has a way of at most K edges -/
def Within (E : List EdgeD) (l0 : List Int) (K : Nat) (out : List Int) : Prop := ∀ (i : Nat) v, out[i]? = some v → v ≠ -2 → ∃ k, k ≤ K ∧ WayK E l0 k i v

theorem come_within {E : List EdgeD} {n to D : Nat} {l0 : List Int} (hok : ∀ e ∈ E, EdgeOk n e) (hD : ∀ e ∈ E, e.deref ≤ D) :
    ∀ (m K : Nat) (out : List Int), pot (n * D) out ≤ m → St E n to D out → Within E l0 K out → ∃ out', IsCome E n to out' ∧ Within E l0 (K + m) out' := by
  intro m
  induction m with
  | zero =>
    intro K out hp hst hw
    by_cases hc : Closed E out
    · exact ⟨out, hst.come hc, hw⟩
    · exfalso
      unfold Closed at hc
      simp only [Classical.not_forall] at hc
      obtain ⟨e, he, d, hd, hd2, hno⟩ := hc
      have hlen := hst.len
      obtain ⟨h1, h2, h3, h4, h5, h6⟩ := hok e he
      obtain ⟨s, hs⟩ : ∃ s, out[e.src.toNat]? = some s := ⟨_, List.getElem?_eq_getElem (by omega)⟩
      have hlt : s = -2 ∨ max d 0 + e.deref < s := by
        rcases Classical.em (s = -2) with h | h
        · exact .inl h
        · right
          rcases (by omega : max d 0 + e.deref < s ∨ s ≤ max d 0 + e.deref) with h' | h'
          · exact h'
          · exact absurd ⟨s, hs, h, by omega⟩ hno
      have := (hst.relax he (hok e he) (hD e he) hd hd2 hs hlt).2
      omega
  | succ m ih =>
    intro K out hp hst hw
    by_cases hc : Closed E out
    · exact ⟨out, hst.come hc, fun i v hv hne => by obtain ⟨k, hk, hwk⟩ := hw i v hv hne; exact ⟨k, by omega, hwk⟩⟩
    · unfold Closed at hc
      simp only [Classical.not_forall] at hc
      obtain ⟨e, he, d, hd, hd2, hno⟩ := hc
      have hlen := hst.len
      have hoke := hok e he
      obtain ⟨h1, h2, h3, h4, h5, h6⟩ := hok e he
      obtain ⟨s, hs⟩ : ∃ s, out[e.src.toNat]? = some s := ⟨_, List.getElem?_eq_getElem (by omega)⟩
      have hlt : s = -2 ∨ max d 0 + e.deref < s := by
        rcases Classical.em (s = -2) with h | h
        · exact .inl h
        · right
          rcases (by omega : max d 0 + e.deref < s ∨ s ≤ max d 0 + e.deref) with h' | h'
          · exact h'
          · exact absurd ⟨s, hs, h, by omega⟩ hno
      obtain ⟨hst2, hp2⟩ := hst.relax he hoke (hD e he) hd hd2 hs hlt
      obtain ⟨out', ho, hw'⟩ := ih (K + 1) _ (by omega) hst2 (fun i v hv hne => by
        by_cases q : e.src.toNat = i
        · subst q
          rw [List.getElem?_set_self (get_lt hs)] at hv
          cases hv
          obtain ⟨k, hk, hwk⟩ := hw _ d hd hd2
          exact ⟨k + 1, by omega, .cons e he (by omega) h1 hwk⟩
        · rw [List.getElem?_set_ne q] at hv
          obtain ⟨k, hk, hwk⟩ := hw i v hv hne
          exact ⟨k, by omega, hwk⟩)
      exact ⟨out', ho, fun i v hv hne => by obtain ⟨k, hk, hwk⟩ := hw' i v hv hne; exact ⟨k, by omega, hwk⟩⟩

theorem start_within {E : List EdgeD} {n t : Nat} {l0 : List Int} (h0 : l0[t]? = some 0) : Within E l0 0 (Start n t) := fun i v hv hne => by
  rcases start_get hv with ⟨rfl, rfl⟩ | ⟨_, h2⟩
  · exact ⟨0, Nat.le_refl _, .nil h0 hne⟩
  · exact absurd h2 hne
theorem IsCome.within {E : List EdgeD} {n t D : Nat} {l0 out : List Int} (ho : IsCome E n t out) (ht : t < n) (h0 : l0[t]? = some 0) (hok : ∀ e ∈ E, EdgeOk n e) (hD : ∀ e ∈ E, e.deref ≤ D) : Within E l0 (n * (n * D + 2)) out := by
  have hst : St E n t D (Start n t) := St.start ht
  have hp : pot (n * D) (Start n t) ≤ n * (n * D + 2) := by
    have h1 := pot_le (B := n * D) (l := Start n t) (fun i v hv => by
      have h2 := hst.bound i v hv
      have h3 := cnt_le (Start n t)
      rw [hst.len] at h3
      have h4 : cnt (Start n t) * D ≤ n * D := Nat.mul_le_mul_right _ h3
      omega)
    rw [hst.len] at h1; exact h1
  obtain ⟨out', h1, h2⟩ := come_within hok hD (n * (n * D + 2)) 0 (Start n t) hp hst (start_within h0)
  obtain rfl := ho.unique h1
  rw [Nat.zero_add] at h2; exact h2
end Go.Proofs.Ytadekfjgdbngdaa
