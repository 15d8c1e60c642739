/- Graphs, plainly: ways, their looks, and the least of them. -/
import Derived.Test.YtadekfjgdbngdaaG2
namespace Go.Proofs.Ytadekfjgdbngdaa
open Go

/-- a way from a location to 'to', and its look -/
inductive Way (E : List EdgeD) (to : Nat) : Nat → Int → Prop
  | nil : Way E to to 0
  | cons {i : Nat} {v : Int} (e : EdgeD) (he : e ∈ E) (hd : e.dst = i) (hs : 0 ≤ e.src) (h : Way E to i v) : Way E to e.src.toNat (max v 0 + e.deref)

/-- by what each location comes to 'to' -/
structure IsCome (E : List EdgeD) (n to : Nat) (out : List Int) : Prop where
  len : out.length = n
  ways : ∀ (i : Nat) v, out[i]? = some v → v ≠ -2 → Way E to i v
  least : ∀ (i : Nat) v, Way E to i v → ∃ u, out[i]? = some u ∧ u ≠ -2 ∧ u ≤ v

theorem IsCome.unique {E : List EdgeD} {n to : Nat} {a b : List Int} (ha : IsCome E n to a) (hb : IsCome E n to b) : a = b := by
  apply List.ext_getElem?
  intro i
  rcases Nat.lt_or_ge i n with h | h
  · obtain ⟨x, hx⟩ : ∃ x, a[i]? = some x := ⟨_, List.getElem?_eq_getElem (by rw [ha.len]; exact h)⟩
    obtain ⟨y, hy⟩ : ∃ y, b[i]? = some y := ⟨_, List.getElem?_eq_getElem (by rw [hb.len]; exact h)⟩
    have h1 : x ≠ -2 → y ≠ -2 ∧ y ≤ x := fun hne => by
      obtain ⟨u, hu, h1, h2⟩ := hb.least i x (ha.ways i x hx hne)
      rw [hy] at hu; cases hu; exact ⟨h1, h2⟩
    have h2 : y ≠ -2 → x ≠ -2 ∧ x ≤ y := fun hne => by
      obtain ⟨u, hu, h1, h2⟩ := ha.least i y (hb.ways i y hy hne)
      rw [hx] at hu; cases hu; exact ⟨h1, h2⟩
    rw [hx, hy]
    congr 1
    by_cases hx2 : x = -2
    · by_cases hy2 : y = -2
      · omega
      · exact absurd hx2 (h2 hy2).1
    · have := h1 hx2; have := (h2 this.1).2; omega
  · rw [List.getElem?_eq_none (by rw [ha.len]; exact h), List.getElem?_eq_none (by rw [hb.len]; exact h)]

/-- how many are reached -/
def cnt : List Int → Nat
  | [] => 0
  | v :: l => (if v = -2 then 0 else 1) + cnt l
/-- what is still to come: every change lowers it -/
def pot (B : Nat) : List Int → Nat
  | [] => 0
  | v :: l => (if v = -2 then B + 2 else (v + 1).toNat) + pot B l

theorem cnt_le (l : List Int) : cnt l ≤ l.length := by
  induction l with
  | nil => simp [cnt]
  | cons v l ih => simp only [cnt, List.length_cons]; split <;> omega

theorem cnt_lt {l : List Int} {i : Nat} (h : l[i]? = some (-2)) : cnt l < l.length := by
  induction l generalizing i with
  | nil => simp at h
  | cons v l ih =>
    cases i with
    | zero => simp at h; subst h; have := cnt_le l; simp [cnt]; omega
    | succ i => simp at h; have := ih h; simp only [cnt, List.length_cons]; split <;> omega

theorem cnt_set {l : List Int} {i : Nat} {v u : Int} (h : l[i]? = some v) (hu : u ≠ -2) : cnt (l.set i u) = cnt l + (if v = -2 then 1 else 0) := by
  induction l generalizing i with
  | nil => simp at h
  | cons x l ih =>
    cases i with
    | zero => simp at h; subst h; simp only [List.set_cons_zero, cnt, if_neg hu]; split <;> omega
    | succ i => simp at h; simp only [List.set_cons_succ, cnt, ih h]; split <;> omega

theorem pot_set {B : Nat} {l : List Int} {i : Nat} {v u : Int} (h : l[i]? = some v) (hu : u ≠ -2) : pot B (l.set i u) + (if v = -2 then B + 2 else (v + 1).toNat) = pot B l + (u + 1).toNat := by
  induction l generalizing i with
  | nil => simp at h
  | cons x l ih =>
    cases i with
    | zero => simp at h; subst h; simp only [List.set_cons_zero, pot, if_neg hu]; omega
    | succ i => simp at h; have := ih h; simp only [List.set_cons_succ, pot]; omega

theorem pot_le {B : Nat} {l : List Int} (h : ∀ (i : Nat) v, l[i]? = some v → v ≤ B) : pot B l ≤ l.length * (B + 2) := by
  induction l with
  | nil => simp [pot]
  | cons x l ih =>
    have h1 := ih fun i v hv => h (i + 1) v (by simpa using hv)
    have h2 := h 0 x (by simp)
    simp only [pot, List.length_cons, Nat.add_mul, Nat.one_mul] at h1 ⊢
    split <;> omega

/-- a state of the search -/
structure St (E : List EdgeD) (n to D : Nat) (out : List Int) : Prop where
  len : out.length = n
  ways : ∀ (i : Nat) v, out[i]? = some v → v ≠ -2 → Way E to i v
  low : ∀ (i : Nat) v, out[i]? = some v → -2 ≤ v
  bound : ∀ (i : Nat) v, out[i]? = some v → v ≤ (cnt out * D : Nat)
  root : ∃ v, out[to]? = some v ∧ v ≠ -2 ∧ v ≤ 0

def Start (n to : Nat) : List Int := (List.replicate n (-2)).set to 0

theorem start_get {n to i : Nat} {v : Int} (h : (Start n to)[i]? = some v) : (i = to ∧ v = 0) ∨ (i ≠ to ∧ v = -2) := by
  unfold Start at h
  rw [List.getElem?_set] at h
  split at h
  · rename_i e; split at h <;> simp at h; exact .inl ⟨e.symm, h.symm⟩
  · rename_i e
    rw [List.getElem?_replicate] at h
    split at h <;> simp at h
    exact .inr ⟨fun h' => e h'.symm, h.symm⟩

theorem start_to {n to : Nat} (h : to < n) : (Start n to)[to]? = some 0 := by simp [Start, h]

theorem St.start {E : List EdgeD} {n to D : Nat} (h : to < n) : St E n to D (Start n to) := by
  refine ⟨by simp [Start], fun i v hv hne => ?_, fun i v hv => ?_, fun i v hv => ?_, ⟨0, start_to h, by omega, by omega⟩⟩
  · rcases start_get hv with ⟨rfl, rfl⟩ | ⟨_, h2⟩
    · exact .nil
    · exact absurd h2 hne
  · rcases start_get hv with ⟨_, rfl⟩ | ⟨_, rfl⟩ <;> omega
  · rcases start_get hv with ⟨_, rfl⟩ | ⟨_, rfl⟩ <;> omega

theorem St.relax {E : List EdgeD} {n to D : Nat} {out : List Int} (h : St E n to D out) {e : EdgeD} (he : e ∈ E) (hok : EdgeOk n e) (hD : e.deref ≤ D) {d s : Int} (hd : out[e.dst.toNat]? = some d) (hd2 : d ≠ -2)
    (hs : out[e.src.toNat]? = some s) (hlt : s = -2 ∨ max d 0 + e.deref < s) :
    St E n to D (out.set e.src.toNat (max d 0 + e.deref)) ∧ pot (n * D) (out.set e.src.toNat (max d 0 + e.deref)) < pot (n * D) out := by
  obtain ⟨h1, h2, h3, h4, h5, h6⟩ := hok
  have hne : max d 0 + e.deref ≠ -2 := by omega
  have hlen := h.len
  have hsl := get_lt hs
  have hway : Way E to e.src.toNat (max d 0 + e.deref) := .cons e he (by omega) h1 (h.ways _ d hd hd2)
  have hget : ∀ (i : Nat) v, (out.set e.src.toNat (max d 0 + e.deref))[i]? = some v → (i = e.src.toNat ∧ v = max d 0 + e.deref) ∨ (i ≠ e.src.toNat ∧ out[i]? = some v) := fun i v hv => by
    by_cases q : e.src.toNat = i
    · subst q; rw [List.getElem?_set_self hsl] at hv; cases hv; exact .inl ⟨rfl, rfl⟩
    · rw [List.getElem?_set_ne q] at hv; exact .inr ⟨fun q' => q q'.symm, hv⟩
  have hc := cnt_set hs hne
  have hdb := h.bound _ d hd
  have hmul : cnt (out.set e.src.toNat (max d 0 + e.deref)) * D = cnt out * D + (if s = -2 then D else 0) := by
    rw [hc, Nat.add_mul]; split <;> simp
  refine ⟨⟨by rw [List.length_set]; exact h.len, fun i v hv hv2 => ?_, fun i v hv => ?_, fun i v hv => ?_, ?_⟩, ?_⟩
  · rcases hget i v hv with ⟨rfl, rfl⟩ | ⟨_, h'⟩
    · exact hway
    · exact h.ways i v h' hv2
  · rcases hget i v hv with ⟨rfl, rfl⟩ | ⟨_, h'⟩
    · omega
    · exact h.low i v h'
  · rw [hmul]
    rcases hget i v hv with ⟨rfl, rfl⟩ | ⟨_, h'⟩
    · have hsb := h.bound _ s hs
      by_cases q : s = -2
      · rw [if_pos q]; omega
      · rw [if_neg q]; omega
    · have := h.bound i v h'; split <;> omega
  · obtain ⟨v, hv, hv2, hv3⟩ := h.root
    by_cases q : e.src.toNat = to
    · refine ⟨max d 0 + e.deref, by rw [← q, List.getElem?_set_self hsl], hne, ?_⟩
      rw [q, hv] at hs; cases hs
      rcases hlt with q | q
      · exact absurd q hv2
      · omega
    · exact ⟨v, by rw [List.getElem?_set_ne q]; exact hv, hv2, hv3⟩
  · have hp := pot_set (B := n * D) hs hne
    have hlow := h.low _ s hs
    by_cases q : s = -2
    · rw [if_pos q] at hp
      have hcl := cnt_lt (q ▸ hs)
      have hm : (cnt out + 1) * D ≤ n * D := Nat.mul_le_mul_right _ (by omega)
      rw [Nat.add_mul, Nat.one_mul] at hm
      omega
    · rw [if_neg q] at hp
      rcases hlt with q' | q'
      · exact absurd q' q
      · omega

/-- no edge lowers anything -/
def Closed (E : List EdgeD) (out : List Int) : Prop :=
  ∀ e ∈ E, ∀ d, out[e.dst.toNat]? = some d → d ≠ -2 → ∃ s, out[e.src.toNat]? = some s ∧ s ≠ -2 ∧ s ≤ max d 0 + e.deref

theorem St.come {E : List EdgeD} {n to D : Nat} {out : List Int} (h : St E n to D out) (hc : Closed E out) : IsCome E n to out := by
  refine ⟨h.len, h.ways, fun i v hw => ?_⟩
  induction hw with
  | nil => exact h.root
  | cons e he hd hs _ ih =>
    obtain ⟨u, hu, hu2, hu3⟩ := ih
    obtain ⟨s, hs1, hs2, hs3⟩ := hc e he u (by rw [hd, Int.toNat_natCast]; exact hu) hu2
    exact ⟨s, hs1, hs2, by omega⟩

/-- what is closed, and reached by ways alone, is it -/
theorem IsCome.of {E : List EdgeD} {n to : Nat} {out : List Int} (hl : out.length = n) (hw : ∀ (i : Nat) v, out[i]? = some v → v ≠ -2 → Way E to i v) (hr : ∃ v, out[to]? = some v ∧ v ≠ -2 ∧ v ≤ 0) (hc : Closed E out) : IsCome E n to out := by
  refine ⟨hl, hw, fun i v hw => ?_⟩
  induction hw with
  | nil => exact hr
  | cons e he hd hs _ ih =>
    obtain ⟨u, hu, hu2, hu3⟩ := ih
    obtain ⟨s, hs1, hs2, hs3⟩ := hc e he u (by rw [hd, Int.toNat_natCast]; exact hu) hu2
    exact ⟨s, hs1, hs2, by omega⟩

end Go.Proofs.Ytadekfjgdbngdaa
